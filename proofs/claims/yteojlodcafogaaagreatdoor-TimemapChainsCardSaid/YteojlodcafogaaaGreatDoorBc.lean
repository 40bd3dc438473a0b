/-
  The texts of ratios. The conditions of the contracts are their hypotheses.
-/
import Derived.Test.YteojlodcafogaaaGreatDoorBb
import Derived.Test.YteojlodcafogaaaGreatDoorBa
import Derived.Test.YteojlodcafogaaaGreatDoorShelf
import Derived.Laws.BytesArg
import Derived.Lib.AppendIntMem
import Derived.Deep.RegionHeld3
namespace Go.Proofs.YteojlodcafogaaaGreatDoor.Q
open Go.RowKit
set_option linter.unusedVariables false
set_option linter.unusedSimpArgs false
theorem _root_.Go.Proofs.YteojlodcafogaaaGreatDoor.Held.two {w : World} {g : Nat} {a b : Value} (h : Held w g [a, b]) : w.cell? ⟨g, 0, none⟩ = some a ∧ w.cell? ⟨g, 1, none⟩ = some b ∧ w.frozen? ⟨g, 0, none⟩ = false ∧ w.frozen? ⟨g, 1, none⟩ = false :=
  ⟨h.cell 0, h.cell 1, h.free 0, h.free 1⟩
def I64 (n : Int) : Prop := -9223372036854775808 ≤ n ∧ n ≤ 9223372036854775807
abbrev rat (n d : Int) : Value := .agg #[.int .i64 n, .int .i64 d]
abbrev Tab (w : World) : Prop := Lib.TabIs Tryz.prog w "internal/strconv.uint64pow10" .u64 Lib.pow10Tab
theorem Tab.on {w w' : World} (h : Tab w) (hb : Below w.heap.size w w') : Tab w' := ((Lib.tabBelow_of_tabIs h).on hb).here
def itoaB (n : Int) : ByteArray := ⟨(Lib.itoa n).toArray⟩
theorem len_data (s : ByteArray) : s.data.toList.length = s.size := by simp
theorem itoaB_size {n : Int} (h0 : -9223372036854775808 ≤ n) (h1 : n ≤ 9223372036854775807) : (itoaB n).size ≤ 21 := by
  have := Lib.itoa_length_le n (by omega) (by omega)
  rw [← len_data]
  exact this
def textB (n d : Int) : ByteArray := ⟨(textL n d).toArray⟩
theorem textB_valid {n d : Int} (h : validV n d = true) : textB n d = itoaB n ++ ⟨#[47]⟩ ++ itoaB d := by
  rw [textB, textL_valid h]
  exact ByteArray.ext (by simp [itoaB])
theorem textB_bad {n d : Int} (h : validV n d = false) : textB n d = ⟨#[]⟩ := by rw [textB, textL_bad h]
theorem textB_size (n d : Int) : (textB n d).size ≤ 43 := by
  cases h : validV n d with
  | false => rw [textB_bad h]; decide
  | true =>
    have b := valid_bd h
    have e : (textB n d).size = (itoaB n).size + 1 + (itoaB d).size := by rw [textB_valid h]; simp [ByteArray.size_append]; rfl
    have s1 := itoaB_size (n := n) (by omega) (by omega)
    have s2 := itoaB_size (n := d) (by omega) (by omega)
    omega
theorem fmt_any (n : Int) (w : World) (h0 : -9223372036854775808 ≤ n) (h1 : n ≤ 9223372036854775807) (ht : Tab w) :
    Calls Tryz.prog 37 #[.int .i64 n, .int .i64 10] w fun e w' => e = .returned (.string (itoaB n)) ∧ Below w.heap.size w w' :=
  (Tryz.strconv_FormatInt_10 n h0 h1 w ht).mono fun e w' ⟨he, kk, os, hw'⟩ => ⟨he, by rw [hw']; exact Lib.below_grow _ w (Nat.le_refl _) kk os⟩
theorem text_any (n d : Int) (w : World) (hn : I64 n) (hd : I64 d) (ht : Tab w) :
    Calls Tryz.prog 38 #[rat n d] w fun e w' => e = .returned (.string (textB n d)) ∧ Below w.heap.size w w' := by
  have HT := Lib.hid ht
  have HN := Lib.hid hn
  have HD := Lib.hid hd
  clear ht hn hd
  obtain ⟨T, hT⟩ : ∃ T, T = textB n d := ⟨_, rfl⟩
  have HTX := Lib.hid hT
  rw [← hT]
  obtain ⟨B, hB⟩ : ∃ B, B = w.heap.size := ⟨_, rfl⟩
  have HB := Lib.hid hB
  rw [← hB]
  clear hT
  go_enter Tryz.func38, Tryz.ntmps38
  go_wp2_with fail
  rw [← hB]
  generalize hw1 : World.alloc _ _ = w1
  have f0 : Held w1 B [.int .i64 n, .int .i64 d] := by subst hw1; exact Held.new hB
  have fb : Below B w w1 := by subst hw1; rw [hB]; exact below_one _ _
  have fs : B + 1 ≤ w1.heap.size := by subst hw1; simp [hB]
  clear hw1 hB
  refine (valid_any n d _ HN.out HD.out).mono ?_
  rintro e w2 ⟨rfl, hb⟩
  have FB := Lib.hid (fb.trans (hb.mono (by omega)))
  have fs2 := Nat.le_trans fs hb.size
  have F0 := Lib.hid (f0.ext hb)
  clear hb fb f0 fs
  cases hv : validV n d with
  | false =>
    have HT2 := Lib.hid (HTX.out.trans (textB_bad hv))
    clear hv
    go_wp2_with fail
    go_ret
    exact ⟨by rw [HT2.out]; rfl, FB.out⟩
  | true =>
    have HT2 := Lib.hid (HTX.out.trans (textB_valid hv))
    have b := valid_bd hv
    have s1 := itoaB_size (n := n) (by omega) (by omega)
    have s2 := itoaB_size (n := d) (by omega) (by omega)
    obtain ⟨b1, b2, b3, b4, _⟩ := b
    clear hv
    obtain ⟨c0, c1, _, _⟩ := F0.out.two
    have fbb := FB.out
    have y1 : ∀ w', (Op.stringOp .add (itoaB n) ⟨#[47]⟩).run Tryz.prog w' = .ok (.string (itoaB n ++ ⟨#[47]⟩)) w' := fun w' => run_string_add_sum w' _ _ (by have : (⟨#[47]⟩ : ByteArray).size = 1 := rfl; omega)
    have y2 : ∀ w', (Op.stringOp .add (itoaB n ++ ⟨#[47]⟩) (itoaB d)).run Tryz.prog w' = .ok (.string (itoaB n ++ ⟨#[47]⟩ ++ itoaB d)) w' := fun w' => run_string_add_sum w' _ _ (by rw [ByteArray.size_append]; have : (⟨#[47]⟩ : ByteArray).size = 1 := rfl; omega)
    go_wp2_with fail
    go_region_held3 (fun w' => w'.cell? ⟨B, 0, none⟩ = some (.int .i64 n) ∧ w'.cell? ⟨B, 1, none⟩ = some (.int .i64 d) ∧ Below B w w' ∧ B + 1 ≤ w'.heap.size)
      ((refine ⟨?_, ?_, ?_, ?_⟩ <;> first
        | assumption
        | exact Below.drew ‹_›
        | exact (hb.cell (Nat.lt_of_lt_of_le (Nat.lt_succ_self _) hks)).trans hk0
        | exact (hb.cell (Nat.lt_of_lt_of_le (Nat.lt_succ_self _) hks)).trans hk1
        | exact hkb.trans (hb.mono (Nat.le_of_succ_le hks))
        | exact Nat.le_trans hks hb.size))
      (first
        | (go_at_call_of 37 (Value.int .i64 n); obtain ⟨hk0, hk1, hkb, hks⟩ := ‹_ ∧ _ ∧ Below B w _ ∧ _›; refine (fmt_any n _ (by omega) (by omega) (HT.out.on (by rw [← HB.out]; exact hkb))).mono ?_; rintro e w' ⟨rfl, hb⟩)
        | (go_at_call_of 37 (Value.int .i64 d); obtain ⟨hk0, hk1, hkb, hks⟩ := ‹_ ∧ _ ∧ Below B w _ ∧ _›; refine (fmt_any d _ (by omega) (by omega) (HT.out.on (by rw [← HB.out]; exact hkb))).mono ?_; rintro e w' ⟨rfl, hb⟩))
    all_goals
      obtain ⟨_, _, hkb, _⟩ := ‹_ ∧ _ ∧ Below B w _ ∧ _›
      have HKB := Lib.hid hkb
      go_wp2_with fail
      go_ret
      exact ⟨by rw [HT2.out]; rfl, HKB.out⟩
end Go.Proofs.YteojlodcafogaaaGreatDoor.Q
namespace Go.Proofs.YteojlodcafogaaaGreatDoor.Q
open Go.RowKit
set_option linter.unusedVariables false
set_option linter.unusedSimpArgs false
theorem itoa_dec' {n : Int} (h : 0 ≤ n) : Lib.itoa n = Lib.decDigits n.toNat := by rw [Lib.itoa, if_neg (by omega)]
theorem itoa_small {n : Int} (h0 : 0 ≤ n) (h : n < 10) : itoaB n = ⟨#[UInt8.ofNat (48 + n % 10).toNat]⟩ := by
  rw [itoaB, itoa_dec' h0, Lib.decDigits, dif_pos (by omega), show (48 + n % 10).toNat = 48 + n.toNat by omega]
theorem itoa_big {n : Int} (h : 10 ≤ n) : itoaB n = itoaB (n / 10) ++ ⟨#[UInt8.ofNat (48 + n % 10).toNat]⟩ := by
  have e : Lib.itoa n = Lib.itoa (n / 10) ++ [UInt8.ofNat (48 + n % 10).toNat] := by
    rw [itoa_dec' (by omega), itoa_dec' (by omega), Lib.decDigits, dif_neg (by omega)]
    rw [show (n / 10).toNat = n.toNat / 10 by omega, show (48 + n % 10).toNat = 48 + n.toNat % 10 by omega]
  rw [itoaB, e]
  exact ByteArray.ext (by simp [itoaB])
theorem itoa_minus {n : Int} (h : n < 0) : itoaB n = ⟨#[45]⟩ ++ itoaB (-n) := by
  have e : Lib.itoa n = 45 :: Lib.itoa (-n) := by
    rw [Lib.itoa, if_pos h, itoa_dec' (by omega), show (-n).toNat = n.natAbs by omega]
  rw [itoaB, e]
  exact ByteArray.ext (by simp [itoaB])
theorem one_string (w : World) (n : Int) :
    (convert 79 9 (.slice (some ⟨w.heap.size, 0, none⟩) 1 1)).run Tryz.prog (w.alloc (.cells #[.int .u8 n] 5)) = .ok (.string ⟨#[UInt8.ofNat n.toNat]⟩) (w.alloc (.cells #[.int .u8 n] 5)) := by
  have := run_convert_bytes_arg (P := Tryz.prog) (w.alloc (.cells #[.int .u8 n] 5)) 79 5 Tryz.underlying79 Tryz.underlying5 w.heap.size 0 1 1 [n] rfl (fun i hi => by
    obtain rfl : i = 0 := by omega
    simp [go_sem]) 9 Tryz.underlying9
  exact this
theorem decimal_nat : ∀ (k : Nat) (n : Int) (w : World), n.toNat ≤ k → 0 ≤ n → n ≤ 9223372036854775807 →
    Calls Tryz.prog 40 #[.int .i64 n] w fun e w' => e = .returned (.string (itoaB n)) ∧ Below w.heap.size w w' := by
  intro k
  have small : ∀ (n : Int) (w : World), 0 ≤ n → n < 10 → Calls Tryz.prog 40 #[.int .i64 n] w fun e w' => e = .returned (.string (itoaB n)) ∧ Below w.heap.size w w' := by
    intro n w h0 hs
    have HI := Lib.hid (itoa_small h0 hs)
    have kc := one_string
    go_enter Tryz.func40, Tryz.ntmps40
    go_wp2_with fail
    go_ret
    exact ⟨by rw [HI.out]; rfl, (Below.refl _ _).alloc (Nat.le_refl _) _⟩
  induction k with
  | zero => exact fun n w hk h0 h1 => small n w h0 (by omega)
  | succ k ih =>
    intro n w hk h0 h1
    by_cases hs : n < 10
    · exact small n w h0 hs
    · have HI := Lib.hid (itoa_big (n := n) (by omega))
      have z1 := itoaB_size (n := n / 10) (by omega) (by omega)
      have kc := one_string
      go_enter Tryz.func40, Tryz.ntmps40
      go_wp2_with fail
      refine (ih (n / 10) _ (by omega) (by omega) (by omega)).mono ?_
      rintro e w2 ⟨rfl, hb2⟩
      have HB2 := Lib.hid ((below_one _ _).trans (hb2.mono (by simp)))
      clear hb2
      go_wp2_with fail
      go_ret
      exact ⟨by rw [HI.out]; rfl, HB2.out⟩
theorem decimal_any (n : Int) (w : World) (h0 : -9223372036854775807 ≤ n) (h1 : n ≤ 9223372036854775807) :
    Calls Tryz.prog 40 #[.int .i64 n] w fun e w' => e = .returned (.string (itoaB n)) ∧ Below w.heap.size w w' := by
  by_cases hn : n < 0
  · have HI := Lib.hid (itoa_minus hn)
    have z1 := itoaB_size (n := -n) (by omega) (by omega)
    go_enter Tryz.func40, Tryz.ntmps40
    go_wp2_with fail
    refine (decimal_nat _ (-n) _ (Nat.le_refl _) (by omega) (by omega)).mono ?_
    rintro e w2 ⟨rfl, hb2⟩
    go_wp2_with fail
    go_ret
    exact ⟨by rw [HI.out]; rfl, hb2⟩
  · exact decimal_nat _ n w (Nat.le_refl _) (by omega) h1
theorem textr_any (n d : Int) (w : World) (hn : I64 n) (hd : I64 d) :
    Calls Tryz.prog 41 #[rat n d] w fun e w' => e = .returned (.string (textB n d)) ∧ Below w.heap.size w w' := by
  have HN := Lib.hid hn
  have HD := Lib.hid hd
  clear hn hd
  obtain ⟨T, hT⟩ : ∃ T, T = textB n d := ⟨_, rfl⟩
  have HTX := Lib.hid hT
  rw [← hT]
  obtain ⟨B, hB⟩ : ∃ B, B = w.heap.size := ⟨_, rfl⟩
  have HB := Lib.hid hB
  rw [← hB]
  clear hT
  go_enter Tryz.func41, Tryz.ntmps41
  go_wp2_with fail
  rw [← hB]
  generalize hw1 : World.alloc _ _ = w1
  have f0 : Held w1 B [.int .i64 n, .int .i64 d] := by subst hw1; exact Held.new hB
  have fb : Below B w w1 := by subst hw1; rw [hB]; exact below_one _ _
  have fs : B + 1 ≤ w1.heap.size := by subst hw1; simp [hB]
  clear hw1 hB
  refine (validr_any n d _ HN.out HD.out).mono ?_
  rintro e w2 ⟨rfl, hb⟩
  have FB := Lib.hid (fb.trans (hb.mono (by omega)))
  have fs2 := Nat.le_trans fs hb.size
  have F0 := Lib.hid (f0.ext hb)
  clear hb fb f0 fs
  cases hv : validV n d with
  | false =>
    have HT2 := Lib.hid (HTX.out.trans (textB_bad hv))
    clear hv
    go_wp2_with fail
    go_ret
    exact ⟨by rw [HT2.out]; rfl, FB.out⟩
  | true =>
    have HT2 := Lib.hid (HTX.out.trans (textB_valid hv))
    have b := valid_bd hv
    have s1 := itoaB_size (n := n) (by omega) (by omega)
    have s2 := itoaB_size (n := d) (by omega) (by omega)
    obtain ⟨b1, b2, b3, b4, _⟩ := b
    clear hv
    obtain ⟨c0, c1, _, _⟩ := F0.out.two
    have fbb := FB.out
    have y1 : ∀ w', (Op.stringOp .add (itoaB n) ⟨#[47]⟩).run Tryz.prog w' = .ok (.string (itoaB n ++ ⟨#[47]⟩)) w' := fun w' => run_string_add_sum w' _ _ (by have : (⟨#[47]⟩ : ByteArray).size = 1 := rfl; omega)
    have y2 : ∀ w', (Op.stringOp .add (itoaB n ++ ⟨#[47]⟩) (itoaB d)).run Tryz.prog w' = .ok (.string (itoaB n ++ ⟨#[47]⟩ ++ itoaB d)) w' := fun w' => run_string_add_sum w' _ _ (by rw [ByteArray.size_append]; have : (⟨#[47]⟩ : ByteArray).size = 1 := rfl; omega)
    go_wp2_with fail
    go_region_held3 (fun w' => w'.cell? ⟨B, 0, none⟩ = some (.int .i64 n) ∧ w'.cell? ⟨B, 1, none⟩ = some (.int .i64 d) ∧ Below B w w' ∧ B + 1 ≤ w'.heap.size)
      ((refine ⟨?_, ?_, ?_, ?_⟩ <;> first
        | assumption
        | exact Below.drew ‹_›
        | exact (hb.cell (Nat.lt_of_lt_of_le (Nat.lt_succ_self _) hks)).trans hk0
        | exact (hb.cell (Nat.lt_of_lt_of_le (Nat.lt_succ_self _) hks)).trans hk1
        | exact hkb.trans (hb.mono (Nat.le_of_succ_le hks))
        | exact Nat.le_trans hks hb.size))
      (first
        | (go_at_call_of 40 (Value.int .i64 n); obtain ⟨hk0, hk1, hkb, hks⟩ := ‹_ ∧ _ ∧ Below B w _ ∧ _›; refine (decimal_any n _ (by omega) (by omega)).mono ?_; rintro e w' ⟨rfl, hb⟩)
        | (go_at_call_of 40 (Value.int .i64 d); obtain ⟨hk0, hk1, hkb, hks⟩ := ‹_ ∧ _ ∧ Below B w _ ∧ _›; refine (decimal_any d _ (by omega) (by omega)).mono ?_; rintro e w' ⟨rfl, hb⟩))
    all_goals
      obtain ⟨_, _, hkb, _⟩ := ‹_ ∧ _ ∧ Below B w _ ∧ _›
      have HKB := Lib.hid hkb
      go_wp2_with fail
      go_ret
      exact ⟨by rw [HT2.out]; rfl, HKB.out⟩
end Go.Proofs.YteojlodcafogaaaGreatDoor.Q
namespace Go.Proofs.YteojlodcafogaaaGreatDoor.Q
open Go.RowKit
set_option linter.unusedVariables false
set_option linter.unusedSimpArgs false
theorem drop_byte (s : ByteArray) {k : Nat} (hk : k < s.size) : s.data.toList.drop k = s[k] :: s.data.toList.drop (k + 1) := by
  have hk' : k < s.data.toList.length := by simpa using hk
  rw [List.drop_eq_getElem_cons hk']
  rfl
theorem unsg_neg {s : ByteArray} (h : 0 < s.size) (hs : s[0].toNat = 45) : unsg s.data.toList = (true, (s.extract 1 s.size).data.toList) := by
  have e := drop_byte s h
  rw [List.drop_zero] at e
  have e2 : (s.extract 1 s.size).data.toList = s.data.toList.drop 1 := Lib.extract_to_end s 1
  rw [e2, e, show s[0] = 45 from UInt8.toNat_inj.1 hs]
  rfl
theorem unsg_pos {s : ByteArray} (h : ∀ h : 0 < s.size, s[0].toNat ≠ 45) : unsg s.data.toList = (false, s.data.toList) := by
  by_cases h0 : 0 < s.size
  · have e := drop_byte s h0
    rw [List.drop_zero] at e
    have hb : s[0] ≠ 45 := fun e => h h0 (by rw [e]; rfl)
    rw [e, unsg.eq_def]
    split
    · rename_i r hr
      exact absurd (List.cons.inj hr).1 hb
    · rfl
  · have : s.data.toList = [] := List.eq_nil_of_length_eq_zero (by rw [len_data]; omega)
    rw [this]; rfl
theorem digs_lt : ∀ (l : List UInt8) (n m : Int), 0 ≤ n → digs n l = some m → 0 ≤ m
  | [], n, m, h, e => by simp [digs] at e; omega
  | b :: r, n, m, h, e => by
    rw [digs] at e
    split at e
    · rename_i hb
      simp [isD] at hb
      exact digs_lt r _ m (by omega) e
    · cases e
theorem number_any (s : ByteArray) (w : World) (hs : s.size ≤ 9223372036854775807) :
    Calls Tryz.prog 76 #[.string s] w fun e w' => e = .returned (.tuple #[.int .i64 (numRV s.data.toList).1, .bool (numRV s.data.toList).2]) ∧ (-1000000000000 ≤ (numRV s.data.toList).1 ∧ (numRV s.data.toList).1 ≤ 1000000000000) ∧ Below w.heap.size w w' := by
  obtain ⟨V, hV⟩ : ∃ V, V = numRV s.data.toList := ⟨_, rfl⟩
  rw [← hV]
  have HV := Lib.hid hV
  have HLN := Lib.hid (len_data s)
  clear hV
  by_cases hneg : ∃ h : 0 < s.size, s[0].toNat = 45
  · obtain ⟨h0, h45⟩ := hneg
    have HU := Lib.hid (unsg_neg h0 h45)
    have h45' : (((s[0].toNat : Nat) : Int) == 45) = true := by rw [h45]; rfl
    have hD0 : (s.extract 1 s.size).size = s.size - 1 := by rw [ByteArray.size_extract]; omega
    obtain ⟨D, hD⟩ : ∃ D, D = s.extract 1 s.size := ⟨_, rfl⟩
    rw [← hD] at HU hD0
    have HDE := Lib.hid hD
    have hne : (D.toList == s.toList) = false := by
      rw [beq_eq_false_iff_ne, Lib.toList_data, Lib.toList_data]
      intro e
      have := congrArg List.length e
      rw [len_data, len_data] at this
      omega
    have hs1 : (1 : Int) ≤ s.size := by omega
    clear hD h45
    by_cases hl : D.size = 0 ∨ 12 < D.size
    · have HV2 := Lib.hid (show V = (0, false) by rw [HV.out, numRV, HU.out]; exact if_pos (by rw [len_data]; exact hl))
      clear HV HU
      rcases hl with hl | hl
      · have hlb : ((((s.size - 1 : Nat)) : Int) == 0) = true := by rw [show (s.size - 1 : Nat) = 0 by omega]; rfl
        go_enter Tryz.func76, Tryz.ntmps76
        go_wp2_with fail
        rw [← HDE.out]
        go_wp2_with fail
        go_ret2
        exact ⟨by rw [HV2.out]; rfl, by rw [HV2.out]; exact ⟨by decide, by decide⟩, Below.refl _ _⟩
      · have hlb : ((((s.size - 1 : Nat)) : Int) == 0) = false := by rw [beq_eq_false_iff_ne]; omega
        have hlc : (decide ((12 : Int) < (s.size - 1 : Nat))) = true := by simp; omega
        go_enter Tryz.func76, Tryz.ntmps76
        go_wp2_with fail
        rw [← HDE.out]
        go_wp2_with fail
        go_ret2
        exact ⟨by rw [HV2.out]; rfl, by rw [HV2.out]; exact ⟨by decide, by decide⟩, Below.refl _ _⟩
    · have l1 : 0 < D.size := by omega
      have l2 : D.size ≤ 12 := by omega
      have hlb : ((((s.size - 1 : Nat)) : Int) == 0) = false := by rw [beq_eq_false_iff_ne]; omega
      have hlc : (decide ((12 : Int) < (s.size - 1 : Nat))) = false := by simp; omega
      have HVN := Lib.hid (show digs 0 D.data.toList = none → V = (0, false) from fun h => by
        rw [HV.out, numRV, HU.out]
        simp only [h]
        exact if_neg (by rw [len_data]; omega))
      have HVS := Lib.hid (show ∀ m, digs 0 D.data.toList = some m → V = ((-m), decide (Lib.itoa (-m) = s.data.toList)) from fun m h => by
        rw [HV.out, numRV, HU.out]
        simp only [h]
        rw [if_neg (by rw [len_data]; omega)]
        rfl)
      have HDL := Lib.hid (len_data D)
      clear HV HU hl
      go_enter Tryz.func76, Tryz.ntmps76
      go_wp2_with fail
      rw [← HDE.out]
      go_wp2_with fail
      go_loopw [6, 5] (fun i n wr => ∃ (k : Nat) (m : Int), k ≤ D.size ∧ i = .int .i64 k ∧ n = .int .i64 m ∧ Hid (digs 0 D.data.toList = digs m (D.data.toList.drop k)) ∧ 0 ≤ m ∧ Hid (m < ((10 ^ k : Nat) : Int)) ∧ wr = w) (fun i _ _ => D.size - (intOf i).toNat)
      case atStart => exact ⟨0, 0, by omega, rfl, rfl, Lib.hid rfl, by omega, Lib.hid (by decide), rfl⟩
      case round =>
        obtain ⟨k, m, hk, rfl, rfl, hd, hm0, hm1, rfl⟩ := hrel
        by_cases hlt : k < D.size
        · have hp : m < 100000000000 := by
            have := hm1.out
            have : 10 ^ k ≤ 10 ^ 11 := Nat.pow_le_pow_right (by decide) (by omega)
            omega
          have HD := Lib.hid (drop_byte D hlt)
          by_cases hb1 : D[k].toNat < 48
          · have HB := Lib.hid (HVN.out (by rw [hd.out, HD.out, digs_bad (.inl hb1)]))
            go_wp2_with fail
            go_ret2
            exact ⟨by rw [HB.out]; rfl, by rw [HB.out]; exact ⟨by decide, by decide⟩, Below.refl _ _⟩
          · by_cases hb2 : 57 < D[k].toNat
            · have HB := Lib.hid (HVN.out (by rw [hd.out, HD.out, digs_bad (.inr hb2)]))
              go_wp2_with fail
              go_ret2
              exact ⟨by rw [HB.out]; rfl, by rw [HB.out]; exact ⟨by decide, by decide⟩, Below.refl _ _⟩
            · have HS := Lib.hid (hd.out.trans (by rw [HD.out, digs_ok (by omega) (by omega)]))
              go_wp2_with fail
              go_roundw
              case rel => exact ⟨k + 1, 10 * m + ((D[k].toNat : Int) - 48), by omega, by go_num, by go_num, HS, by omega, Lib.hid (by have := hm1.out; rw [Nat.pow_succ]; omega), by trivial⟩
              case measure => simp [intOf]; omega
        · have HE := Lib.hid (HVS.out m (by
            rw [hd.out, List.drop_eq_nil_of_le (by rw [HDL.out]; omega)]; rfl))
          have hp : m < 1000000000000 := by
            have := hm1.out
            have : 10 ^ k ≤ 10 ^ 12 := Nat.pow_le_pow_right (by decide) (by omega)
            omega
          go_wp2_with fail
          refine (decimal_any (-m) _ (by omega) (by omega)).mono ?_
          rintro e w3 ⟨rfl, hb3⟩
          go_wp2_with fail
          go_ret2
          have eb : ((itoaB (-m)).toList == s.toList) = decide (Lib.itoa (-m) = s.data.toList) := by
            rw [Lib.toList_data, Lib.toList_data, itoaB, ← Bool.beq_eq_decide_eq]
          exact ⟨by rw [HE.out, ← eb]; rfl, by rw [HE.out]; exact ⟨by show -1000000000000 ≤ (-m); omega, by show (-m) ≤ 1000000000000; omega⟩, hb3⟩
  · have HU := Lib.hid (unsg_pos (s := s) (fun h e => hneg ⟨h, e⟩))
    have HN := Lib.hid hneg
    clear hneg
    by_cases hl : s.size = 0 ∨ 12 < s.size
    · have HV2 := Lib.hid (show V = (0, false) by rw [HV.out, numRV, HU.out]; exact if_pos (by rw [len_data]; exact hl))
      clear HV HU
      rcases hl with hl | hl
      · have hlb : (((s.size) : Int) == 0) = true := by rw [show s.size = 0 by omega]; rfl
        have hlc : (decide ((0 : Int) < s.size)) = false := decide_eq_false (by omega)
        go_enter Tryz.func76, Tryz.ntmps76
        go_wp2_with fail
        go_ret2
        exact ⟨by rw [HV2.out]; rfl, by rw [HV2.out]; exact ⟨by decide, by decide⟩, Below.refl _ _⟩
      · have h0 : 0 < s.size := by omega
        have h45' : (((s[0].toNat : Nat) : Int) == 45) = false := by rw [beq_eq_false_iff_ne]; intro e; exact HN.out ⟨h0, by exact_mod_cast e⟩
        have hlb : (((s.size) : Int) == 0) = false := by rw [beq_eq_false_iff_ne]; omega
        have hlc : (decide ((12 : Int) < s.size)) = true := by simp; omega
        go_enter Tryz.func76, Tryz.ntmps76
        go_wp2_with fail
        go_ret2
        exact ⟨by rw [HV2.out]; rfl, by rw [HV2.out]; exact ⟨by decide, by decide⟩, Below.refl _ _⟩
    · have l1 : 0 < s.size := by omega
      have l2 : s.size ≤ 12 := by omega
      have hlb : (((s.size) : Int) == 0) = false := by rw [beq_eq_false_iff_ne]; omega
      have hlc : (decide ((12 : Int) < s.size)) = false := by simp; omega
      have h45' : (((s[0].toNat : Nat) : Int) == 45) = false := by rw [beq_eq_false_iff_ne]; intro e; exact HN.out ⟨l1, by exact_mod_cast e⟩
      have HVN := Lib.hid (show digs 0 s.data.toList = none → V = (0, false) from fun h => by
        rw [HV.out, numRV, HU.out]
        simp only [h]
        exact if_neg (by rw [len_data]; omega))
      have HVS := Lib.hid (show ∀ m, digs 0 s.data.toList = some m → V = (m, decide (Lib.itoa m = s.data.toList)) from fun m h => by
        rw [HV.out, numRV, HU.out]
        simp only [h]
        rw [if_neg (by rw [len_data]; omega)]
        rfl)
      have HDL := Lib.hid (len_data s)
      clear HV HU hl
      go_enter Tryz.func76, Tryz.ntmps76
      go_wp2_with fail
      go_loopw [6, 5] (fun i n wr => ∃ (k : Nat) (m : Int), k ≤ s.size ∧ i = .int .i64 k ∧ n = .int .i64 m ∧ Hid (digs 0 s.data.toList = digs m (s.data.toList.drop k)) ∧ 0 ≤ m ∧ Hid (m < ((10 ^ k : Nat) : Int)) ∧ wr = w) (fun i _ _ => s.size - (intOf i).toNat)
      case atStart => exact ⟨0, 0, by omega, rfl, rfl, Lib.hid rfl, by omega, Lib.hid (by decide), rfl⟩
      case round =>
        obtain ⟨k, m, hk, rfl, rfl, hd, hm0, hm1, rfl⟩ := hrel
        by_cases hlt : k < s.size
        · have hp : m < 100000000000 := by
            have := hm1.out
            have : 10 ^ k ≤ 10 ^ 11 := Nat.pow_le_pow_right (by decide) (by omega)
            omega
          have HD := Lib.hid (drop_byte s hlt)
          by_cases hb1 : s[k].toNat < 48
          · have HB := Lib.hid (HVN.out (by rw [hd.out, HD.out, digs_bad (.inl hb1)]))
            go_wp2_with fail
            go_ret2
            exact ⟨by rw [HB.out]; rfl, by rw [HB.out]; exact ⟨by decide, by decide⟩, Below.refl _ _⟩
          · by_cases hb2 : 57 < s[k].toNat
            · have HB := Lib.hid (HVN.out (by rw [hd.out, HD.out, digs_bad (.inr hb2)]))
              go_wp2_with fail
              go_ret2
              exact ⟨by rw [HB.out]; rfl, by rw [HB.out]; exact ⟨by decide, by decide⟩, Below.refl _ _⟩
            · have HS := Lib.hid (hd.out.trans (by rw [HD.out, digs_ok (by omega) (by omega)]))
              go_wp2_with fail
              go_roundw
              case rel => exact ⟨k + 1, 10 * m + ((s[k].toNat : Int) - 48), by omega, by go_num, by go_num, HS, by omega, Lib.hid (by have := hm1.out; rw [Nat.pow_succ]; omega), by trivial⟩
              case measure => simp [intOf]; omega
        · have HE := Lib.hid (HVS.out m (by
            rw [hd.out, List.drop_eq_nil_of_le (by rw [HDL.out]; omega)]; rfl))
          have hp : m < 1000000000000 := by
            have := hm1.out
            have : 10 ^ k ≤ 10 ^ 12 := Nat.pow_le_pow_right (by decide) (by omega)
            omega
          go_wp2_with fail
          refine (decimal_any m _ (by omega) (by omega)).mono ?_
          rintro e w3 ⟨rfl, hb3⟩
          go_wp2_with fail
          go_ret2
          have eb : ((itoaB m).toList == s.toList) = decide (Lib.itoa m = s.data.toList) := by
            rw [Lib.toList_data, Lib.toList_data, itoaB, ← Bool.beq_eq_decide_eq]
          exact ⟨by rw [HE.out, ← eb]; rfl, by rw [HE.out]; exact ⟨by show -1000000000000 ≤ m; omega, by show m ≤ 1000000000000; omega⟩, hb3⟩
end Go.Proofs.YteojlodcafogaaaGreatDoor.Q
namespace Go.Proofs.YteojlodcafogaaaGreatDoor.Q
open Go.RowKit
set_option linter.unusedVariables false
set_option linter.unusedSimpArgs false
abbrev Ev (g : Nat) (w : World) : Prop := ∃ ev, w.cell? ⟨g, 0, none⟩ = some ev ∧ (ev = .nilIface ∨ ∃ te pe, ev = .iface te pe)
structure Wd (w : World) : Prop where
  tab : Tab w
  mx : ∃ m, w.cell? ⟨1, 0, none⟩ = some (.int .i64 m)
  es : Ev 2 w
  er : Ev 3 w
theorem Wd.on {w w' : World} (h : Wd w) (hb : Below w.heap.size w w') : Wd w' := by
  obtain ⟨h1, ⟨m, h2⟩, ⟨e1, h3, h3'⟩, ⟨e2, h4, h4'⟩⟩ := h
  exact ⟨h1.on hb, ⟨m, (hb.cell (World.block_lt_of_cell? w _ h2)).trans h2⟩, ⟨e1, (hb.cell (World.block_lt_of_cell? w _ h3)).trans h3, h3'⟩, ⟨e2, (hb.cell (World.block_lt_of_cell? w _ h4)).trans h4, h4'⟩⟩
theorem parseIntB_bd {l : List UInt8} {v : Int} (h : Lib.parseIntB 64 l = .ok v) : I64 v := by
  have e63 : 2 ^ (64 - 1) = 9223372036854775808 := rfl
  cases l with
  | nil => cases h
  | cons c r =>
    rw [Lib.parseIntB] at h
    simp only [e63] at h
    split at h
    · cases h
    · cases h
    · rename_i u hu
      split at h
      · cases h
      · split at h
        · cases h
        · rename_i h1 h2
          injection h with h
          subst h
          unfold I64
          split <;> omega
theorem pint_any (s : ByteArray) (w : World) (hs : s.size ≤ 100000) (hw : Wd w) :
    Calls Tryz.prog 73 #[.string s, .int .i64 10, .int .i64 64] w fun e w' => ∃ v ev, e = .returned (.tuple #[.int .i64 v, ev]) ∧ I64 v ∧
      ((Lib.parseIntB 64 s.data.toList = .ok v ∧ ev = .nilIface) ∨ ((∀ v, Lib.parseIntB 64 s.data.toList ≠ .ok v) ∧ ∃ tp p, ev = .iface tp p)) ∧ Below w.heap.size w w' := by
  rcases hp : Lib.parseIntB 64 s.data.toList with v | _ | _
  · refine (Tryz.strconv_ParseInt_10_at64_ok s (by omega) v hp w).mono ?_
    rintro e w' ⟨rfl, hw'⟩
    refine ⟨v, .nilIface, rfl, parseIntB_bd hp, .inl ⟨rfl, rfl⟩, ?_⟩
    rcases hw' with rfl | ⟨t, rfl⟩
    · exact Below.refl _ _
    · exact Go.Joins.below_bytesWorld _ w _ t (Nat.le_refl _)
  · obtain ⟨ev, h1, h2⟩ := hw.es
    refine (Tryz.strconv_ParseInt_10_at64_syntax s (by omega) hp ev w h1 h2).mono ?_
    rintro e w' ⟨N, rfl, _, _, hb⟩
    exact ⟨0, _, rfl, ⟨by decide, by decide⟩, .inr ⟨fun v h => (by cases h), _, _, rfl⟩, hb⟩
  · obtain ⟨ev, h1, h2⟩ := hw.er
    refine (Tryz.strconv_ParseInt_10_at64_range s (by omega) hp ev w h1 h2).mono ?_
    rintro e w' ⟨N, rfl, _, _, hb⟩
    refine ⟨_, _, rfl, ?_, .inr ⟨fun v h => (by cases h), _, _, rfl⟩, hb⟩
    unfold Lib.intSat I64
    split
    · exact ⟨by decide, by decide⟩
    · exact ⟨by decide, by decide⟩
theorem cut_any (s : ByteArray) (w : World) (hs : s.size ≤ 100000) (hw : Wd w) :
    Calls Tryz.prog 72 #[.string s, .string ⟨#[47]⟩] w fun e w' => e = .returned (.tuple #[.string ⟨(cutC 47 s.data.toList).1.toArray⟩, .string ⟨(cutC 47 s.data.toList).2.toArray⟩, .bool (decide (47 ∈ s.data.toList))]) ∧ ∃ n, w' = w.drewN n := by
  obtain ⟨m, hm⟩ := hw.mx
  have := Tryz.strings_Cut s ⟨#[47]⟩ m w (by omega) hm
  rw [show (⟨#[47]⟩ : ByteArray).data.toList = [47] from rfl, lib_cut] at this
  exact this
theorem cutC_len (c : UInt8) : ∀ l : List UInt8, (cutC c l).1.length ≤ l.length ∧ (cutC c l).2.length ≤ l.length
  | [] => ⟨Nat.le_refl _, Nat.le_refl _⟩
  | b :: r => by
    have := cutC_len c r
    rw [cutC]
    split
    · simp
    · simp; omega
theorem parse_any (s : ByteArray) (w : World) (hs : s.size ≤ 100000) (hw : Wd w) :
    Calls Tryz.prog 74 #[.string s] w fun e w' => e = .returned (pairE (parseRV s.data.toList)) ∧ Below w.heap.size w w' := by
  obtain ⟨V, hV⟩ : ∃ V, V = parseRV s.data.toList := ⟨_, rfl⟩
  rw [← hV]
  have HV := Lib.hid hV
  have HW := Lib.hid hw
  have hc := cutC_len 47 s.data.toList
  rw [len_data] at hc
  have HC := Lib.hid (fun w => cut_any s w hs)
  obtain ⟨a, ha⟩ : ∃ a : ByteArray, a = ⟨(cutC 47 s.data.toList).1.toArray⟩ := ⟨_, rfl⟩
  obtain ⟨b, hb⟩ : ∃ b : ByteArray, b = ⟨(cutC 47 s.data.toList).2.toArray⟩ := ⟨_, rfl⟩
  have ha2 : a.data.toList = (cutC 47 s.data.toList).1 := by rw [ha]
  have hb2 : b.data.toList = (cutC 47 s.data.toList).2 := by rw [hb]
  have sa : a.size ≤ 100000 := by rw [← len_data, ha2]; omega
  have sb : b.size ≤ 100000 := by rw [← len_data, hb2]; omega
  rw [← ha, ← hb] at HC
  have HA2 := Lib.hid ha2
  have HB2 := Lib.hid hb2
  obtain ⟨B, hB⟩ : ∃ B, B = w.heap.size := ⟨_, rfl⟩
  have HB := Lib.hid hB
  rw [← hB]
  clear hV hw hc ha hb ha2 hb2
  go_enter Tryz.func74, Tryz.ntmps74
  go_wp2_with fail
  refine (HC.out _ (HW.out.on (below_one _ _))).mono ?_
  rintro e w2 ⟨rfl, k, hw2⟩
  rw [← hB]
  have f0 : Held w2 B [.int .i64 0, .int .i64 0] := by subst hw2; exact (Held.new hB).drewN _
  have fb : Below B w w2 := by subst hw2; rw [hB]; exact below_drewN (below_one _ _) k
  have fs : B + 1 ≤ w2.heap.size := by subst hw2; simp [hB]
  clear hw2 hB HC
  have F0 := Lib.hid f0
  have FB := Lib.hid fb
  clear f0 fb
  go_wp2_with fail
  refine (pint_any a _ sa (HW.out.on (by rw [← HB.out]; exact FB.out))).mono ?_
  rintro e w3 ⟨v1, ev1, rfl, hi1, hm1, hb⟩
  have F0 := Lib.hid (F0.out.ext hb)
  have FB := Lib.hid (FB.out.trans (hb.mono (by omega)))
  have fs := Nat.le_trans fs hb.size
  have HI1 := Lib.hid hi1
  have HM1 := Lib.hid hm1
  clear hb hi1 hm1
  go_wp2_with fail
  refine (pint_any b _ sb (HW.out.on (by rw [← HB.out]; exact FB.out))).mono ?_
  rintro e w4 ⟨v2, ev2, rfl, hi2, hm2, hb⟩
  have F0 := Lib.hid (F0.out.ext hb)
  have FB := Lib.hid (FB.out.trans (hb.mono (by omega)))
  have fs := Nat.le_trans fs hb.size
  have HI2 := Lib.hid hi2
  have HM2 := Lib.hid hm2
  clear hb hi2 hm2
  have VBAD := Lib.hid (show (∀ n d, textL n d = s.data.toList → s.data.toList = []) → V = ((0, 0), 4) from fun h => HV.out.trans (parse_miss h))
  have VHIT := Lib.hid (show ∀ n d, textL n d = s.data.toList → s.data.toList ≠ [] → V = ((n, d), 0) from fun n d h1 h2 => HV.out.trans (parse_hit h1 h2))
  clear HV
  have SPLIT : ∀ n d, textL n d = s.data.toList → s.data.toList ≠ [] → a.data.toList = Lib.itoa n ∧ b.data.toList = Lib.itoa d ∧ validV n d = true := by
    intro n d h1 h2
    have hv : validV n d = true := textL_ne (by rw [h1]; exact h2)
    have hc := textL_cut hv
    rw [h1] at hc
    rw [HA2.out, HB2.out, hc]
    exact ⟨rfl, rfl, hv⟩
  have SP := Lib.hid SPLIT
  clear SPLIT
  obtain ⟨w5, hw5⟩ : ∃ w5, w5 = w4.alloc (.cells #[.int .i64 v1, .int .i64 v2] 55) := ⟨_, rfl⟩
  obtain ⟨R, hR⟩ : ∃ R, R = w4.heap.size := ⟨_, rfl⟩
  have g0 : Held w5 R [.int .i64 v1, .int .i64 v2] := by subst hw5; exact Held.new hR
  have g1 : Held w5 B [.int .i64 0, .int .i64 0] := by subst hw5; exact F0.out.alloc _
  have g2 : Below B w w5 := by subst hw5; exact FB.out.alloc (by omega) _
  have g3 : w5.heap.size = R + 1 := by subst hw5; simp [hR]
  have g4 : B + 1 ≤ R := by omega
  have G0 := Lib.hid g0
  have G1 := Lib.hid g1
  have G2 := Lib.hid g2
  have HR := Lib.hid hR
  have HW5 := Lib.hid hw5
  obtain ⟨x0, x1, _, _⟩ := g0.two
  obtain ⟨y0, y1, y2, y3⟩ := g1.two
  clear F0 FB g0 g1 g2 hR hw5
  rcases HM1.out with ⟨p1, rfl⟩ | ⟨p1, tp1, q1, rfl⟩
  · have P1 := Lib.hid p1
    rcases HM2.out with ⟨p2, rfl⟩ | ⟨p2, tp2, q2, rfl⟩
    · have P2 := Lib.hid p2
      clear HM1 HM2 p1 p2 x0 x1 y0 y1 y2 y3
      have TX := Lib.hid (text_any v1 v2 w5 HI1.out HI2.out (HW.out.on (by rw [← HB.out]; exact G2.out)).tab)
      go_wp2_with fail
      rw [← HW5.out, ← HR.out]
      refine (TX.out).mono ?_
      rintro e w6 ⟨rfl, hb⟩
      have g0 := G0.out.ext hb
      have g1 := G1.out.ext hb
      have GG1 := Lib.hid g1
      have GG2 := Lib.hid (G2.out.trans (hb.mono (by omega)))
      obtain ⟨x0, x1, _, _⟩ := g0.two
      obtain ⟨y0, y1, y2, y3⟩ := g1.two
      clear g0 g1 hb TX HW5
      by_cases hit : textL v1 v2 = s.data.toList
      · have hs0 : s.data.toList ≠ [] := by
          intro h
          have ha := HA2.out
          rw [h] at ha
          have hp := P1.out
          rw [ha] at hp
          cases hp
        have HV2 := Lib.hid (VHIT.out v1 v2 hit hs0)
        have eb : ((textB v1 v2).toList == s.toList) = true := by
          rw [beq_iff_eq, Lib.toList_data, Lib.toList_data, textB]; exact hit
        clear hit hs0
        go_wp2_with fail
        have r := Lib.hid (((GG1.out).set 0 (.int .i64 v1)).set 1 (.int .i64 v2))
        have rb := Lib.hid ((GG2.out.setCell (p := ⟨B, 0, none⟩) (Nat.le_refl _) (.int .i64 v1)).setCell (p := ⟨B, 1, none⟩) (Nat.le_refl _) (.int .i64 v2))
        generalize World.setCell _ _ _ = w9 at *
        have r0' := r.out.cell 0
        have r1' := r.out.cell 1
        simp only [List.set_cons_zero, List.set_cons_succ, List.getElem?_cons_zero, List.getElem?_cons_succ] at r0' r1'
        refine bodyPost_ret (by simp [results, Tryz.results74, r0', r1', go_sem]; try rfl) rfl ?_
        exact ⟨by rw [HV2.out], rb.out⟩
      · have HV2 := Lib.hid (VBAD.out (by
          intro n d h
          apply Classical.byContradiction
          intro h0
          obtain ⟨e1, e2, hv⟩ := SP.out n d h h0
          have bb := valid_bd hv
          have q1 := parseInt_itoa (n := n) (by omega) (by omega)
          have q2 := parseInt_itoa (n := d) (by omega) (by omega)
          rw [← e1, P1.out] at q1
          rw [← e2, P2.out] at q2
          injection q1 with q1
          injection q2 with q2
          subst q1 q2
          exact hit h))
        have eb : ((textB v1 v2).toList == s.toList) = false := by
          rw [beq_eq_false_iff_ne, Lib.toList_data, Lib.toList_data, textB]; exact hit
        clear hit
        go_wp2_with fail
        have r := Lib.hid (((GG1.out).set 0 (.int .i64 0)).set 1 (.int .i64 0))
        have rb := Lib.hid ((GG2.out.setCell (p := ⟨B, 0, none⟩) (Nat.le_refl _) (.int .i64 0)).setCell (p := ⟨B, 1, none⟩) (Nat.le_refl _) (.int .i64 0))
        generalize World.setCell _ _ _ = w9 at *
        have r0' := r.out.cell 0
        have r1' := r.out.cell 1
        simp only [List.set_cons_zero, List.set_cons_succ, List.getElem?_cons_zero, List.getElem?_cons_succ] at r0' r1'
        refine bodyPost_ret (by simp [results, Tryz.results74, r0', r1', go_sem]; try rfl) rfl ?_
        exact ⟨by rw [HV2.out], rb.out⟩
    · have HV2 := Lib.hid (VBAD.out (by
        intro n d h
        apply Classical.byContradiction
        intro h0
        obtain ⟨e1, e2, hv⟩ := SP.out n d h h0
        have bb := valid_bd hv
        have q2 := parseInt_itoa (n := d) (by omega) (by omega)
        rw [← e2] at q2
        exact p2 _ q2))
      have GG1 := G1
      have GG2 := G2
      clear HM1 HM2 p1 p2
      rw [HW5.out] at y0 y1 y2 y3
      go_wp2_with fail
      rw [← HW5.out, ← HR.out]
      have r := Lib.hid (((GG1.out).set 0 (.int .i64 0)).set 1 (.int .i64 0))
      have rb := Lib.hid ((GG2.out.setCell (p := ⟨B, 0, none⟩) (Nat.le_refl _) (.int .i64 0)).setCell (p := ⟨B, 1, none⟩) (Nat.le_refl _) (.int .i64 0))
      generalize World.setCell _ _ _ = w9 at *
      have r0' := r.out.cell 0
      have r1' := r.out.cell 1
      simp only [List.set_cons_zero, List.set_cons_succ, List.getElem?_cons_zero, List.getElem?_cons_succ] at r0' r1'
      refine bodyPost_ret (by simp [results, Tryz.results74, r0', r1', go_sem]; try rfl) rfl ?_
      exact ⟨by rw [HV2.out], rb.out⟩
  · have HV2 := Lib.hid (VBAD.out (by
      intro n d h
      apply Classical.byContradiction
      intro h0
      obtain ⟨e1, e2, hv⟩ := SP.out n d h h0
      have bb := valid_bd hv
      have q1 := parseInt_itoa (n := n) (by omega) (by omega)
      rw [← e1] at q1
      exact p1 _ q1))
    have GG1 := G1
    have GG2 := G2
    clear HM1 p1
    rw [HW5.out] at y0 y1 y2 y3
    rcases HM2.out with ⟨p2, rfl⟩ | ⟨p2, tp2, q2, rfl⟩
    · clear HM2 p2
      go_wp2_with fail
      rw [← HW5.out, ← HR.out]
      have r := Lib.hid (((GG1.out).set 0 (.int .i64 0)).set 1 (.int .i64 0))
      have rb := Lib.hid ((GG2.out.setCell (p := ⟨B, 0, none⟩) (Nat.le_refl _) (.int .i64 0)).setCell (p := ⟨B, 1, none⟩) (Nat.le_refl _) (.int .i64 0))
      generalize World.setCell _ _ _ = w9 at *
      have r0' := r.out.cell 0
      have r1' := r.out.cell 1
      simp only [List.set_cons_zero, List.set_cons_succ, List.getElem?_cons_zero, List.getElem?_cons_succ] at r0' r1'
      refine bodyPost_ret (by simp [results, Tryz.results74, r0', r1', go_sem]; try rfl) rfl ?_
      exact ⟨by rw [HV2.out], rb.out⟩
    · clear HM2 p2
      go_wp2_with fail
      rw [← HW5.out, ← HR.out]
      have r := Lib.hid (((GG1.out).set 0 (.int .i64 0)).set 1 (.int .i64 0))
      have rb := Lib.hid ((GG2.out.setCell (p := ⟨B, 0, none⟩) (Nat.le_refl _) (.int .i64 0)).setCell (p := ⟨B, 1, none⟩) (Nat.le_refl _) (.int .i64 0))
      generalize World.setCell _ _ _ = w9 at *
      have r0' := r.out.cell 0
      have r1' := r.out.cell 1
      simp only [List.set_cons_zero, List.set_cons_succ, List.getElem?_cons_zero, List.getElem?_cons_succ] at r0' r1'
      refine bodyPost_ret (by simp [results, Tryz.results74, r0', r1', go_sem]; try rfl) rfl ?_
      exact ⟨by rw [HV2.out], rb.out⟩
end Go.Proofs.YteojlodcafogaaaGreatDoor.Q
namespace Go.Proofs.YteojlodcafogaaaGreatDoor.Q
open Go.RowKit
set_option linter.unusedVariables false
set_option linter.unusedSimpArgs false
theorem cut_at {S : List UInt8} {i : Nat} (hi : i < S.length) (hc : S[i] = 47) (hn : 47 ∉ S.take i) : cutC 47 S = (S.take i, S.drop (i + 1)) := by
  have e : S = S.take i ++ 47 :: S.drop (i + 1) := by
    have := (List.take_append_drop i S).symm
    rw [List.drop_eq_getElem_cons hi, hc] at this
    exact this
  have := cutC_cut (v := S.drop (i + 1)) hn
  rwa [← e] at this
theorem take_not {S : List UInt8} {i : Nat} (hi : i < S.length) (hc : S[i] ≠ 47) (hn : 47 ∉ S.take i) : 47 ∉ S.take (i + 1) := by
  rw [List.take_succ_eq_append_getElem hi, List.mem_append]
  rintro (h | h)
  · exact hn h
  · rw [List.mem_singleton] at h; exact hc h.symm
theorem getB (s : ByteArray) {k : Nat} (hk : k < s.size) (hk' : k < s.data.toList.length) : s.data.toList[k] = s[k] := rfl
theorem parser_any (s : ByteArray) (w : World) (hs : s.size ≤ 100000) :
    Calls Tryz.prog 77 #[.string s] w fun e w' => e = .returned (pairE (parseRV s.data.toList)) ∧ Below w.heap.size w w' := by
  obtain ⟨V, hV⟩ : ∃ V, V = parseRV s.data.toList := ⟨_, rfl⟩
  rw [← hV]
  have HV := Lib.hid hV
  have HLN := Lib.hid (len_data s)
  obtain ⟨B, hB⟩ : ∃ B, B = w.heap.size := ⟨_, rfl⟩
  have HB := Lib.hid hB
  rw [← hB]
  have VBAD := Lib.hid (show (∀ n d, textL n d = s.data.toList → s.data.toList = []) → V = ((0, 0), 4) from fun h => HV.out.trans (parse_miss h))
  have VHIT := Lib.hid (show ∀ n d, textL n d = s.data.toList → s.data.toList ≠ [] → V = ((n, d), 0) from fun n d h1 h2 => HV.out.trans (parse_hit h1 h2))
  clear hV HV
  go_enter Tryz.func77, Tryz.ntmps77
  go_wp2_with fail
  rw [← hB]
  generalize hw2 : World.alloc _ _ = w2
  have f0 : Held w2 B [.int .i64 0, .int .i64 0] := by subst hw2; exact Held.new hB
  have fb : Below B w w2 := by subst hw2; rw [hB]; exact below_one _ _
  have fs : B + 1 ≤ w2.heap.size := by subst hw2; simp [hB]
  clear hw2 hB
  have F0 := Lib.hid f0
  have FB := Lib.hid fb
  obtain ⟨y0, y1, y2, y3⟩ := f0.two
  clear f0 fb
  go_loopw [4] (fun iv wr => ∃ i : Nat, i ≤ s.size ∧ iv = .int .i64 i ∧ Hid (47 ∉ s.data.toList.take i) ∧ wr = w2) (fun iv _ => s.size - (intOf iv).toNat)
  case atStart => exact ⟨0, by omega, rfl, Lib.hid (by simp), rfl⟩
  case round =>
    obtain ⟨i, hi, rfl, hno, rfl⟩ := hrel
    by_cases hlt : i < s.size
    · by_cases hc : s[i].toNat = 47
      · have hcb : (((s[i].toNat : Nat) : Int) != 47) = false := by rw [hc]; rfl
        have CUT := Lib.hid (cut_at (S := s.data.toList) (by rw [HLN.out]; exact hlt) ((getB s hlt (by rw [HLN.out]; exact hlt)).trans (UInt8.toNat_inj.1 hc)) hno.out)
        have HNE := Lib.hid (show s.data.toList ≠ [] from fun h => by have := HLN.out; rw [h] at this; simp at this; omega)
        have NA := Lib.hid (number_any (s.extract 0 i) wr (by rw [ByteArray.size_extract]; omega))
        have ha2 : (s.extract 0 i).data.toList = s.data.toList.take i := Lib.extract_from_zero s i
        have hb2 : (s.extract (i + 1) s.size).data.toList = s.data.toList.drop (i + 1) := Lib.extract_to_end s (i + 1)
        obtain ⟨a, ha⟩ : ∃ a, a = s.extract 0 i := ⟨_, rfl⟩
        obtain ⟨b, hb⟩ : ∃ b, b = s.extract (i + 1) s.size := ⟨_, rfl⟩
        have sb : b.size ≤ 9223372036854775807 := by rw [hb, ByteArray.size_extract]; omega
        rw [← ha] at ha2 NA
        rw [← hb] at hb2
        have HA := Lib.hid ha
        have HBB := Lib.hid hb
        have SPLIT : ∀ n d, textL n d = s.data.toList → s.data.toList ≠ [] → a.data.toList = Lib.itoa n ∧ b.data.toList = Lib.itoa d ∧ validV n d = true := by
          intro n d h1 h2
          have hv : validV n d = true := textL_ne (by rw [h1]; exact h2)
          have hc := textL_cut hv
          rw [h1, CUT.out] at hc
          rw [ha2, hb2]
          injection hc with e1 e2
          exact ⟨e1, e2, hv⟩
        have SP := Lib.hid SPLIT
        have hi1 : ((i : Int) + 1) ≤ s.size := by omega
        clear SPLIT CUT ha2 hb2 ha hb hc hno
        go_wp2_with fail
        rw [← HA.out]
        refine (NA.out).mono ?_
        rintro e w3 ⟨rfl, hv1, hb⟩
        have F0 := Lib.hid (F0.out.ext hb)
        have FB := Lib.hid (FB.out.trans (hb.mono (by omega)))
        have fs := Nat.le_trans fs hb.size
        clear hb y0 y1 y2 y3
        go_wp2_with fail
        rw [← HBB.out]
        refine (number_any b _ sb).mono ?_
        rintro e w4 ⟨rfl, hv2, hb⟩
        have F0 := Lib.hid (F0.out.ext hb)
        have FB := Lib.hid (FB.out.trans (hb.mono (by omega)))
        have fs := Nat.le_trans fs hb.size
        clear hb
        obtain ⟨V1, hV1⟩ : ∃ V1, V1 = numRV a.data.toList := ⟨_, rfl⟩
        obtain ⟨V2, hV2⟩ : ∃ V2, V2 = numRV b.data.toList := ⟨_, rfl⟩
        rw [← hV1] at hv1 ⊢
        rw [← hV2] at hv2 ⊢
        have N1 := Lib.hid hV1
        have N2 := Lib.hid hV2
        clear hV1 hV2 NA
        obtain ⟨v1, k1⟩ := V1
        obtain ⟨v2, k2⟩ := V2
        dsimp only at hv1 hv2 ⊢
        have HI1 : Hid (I64 v1) := Lib.hid ⟨by omega, by omega⟩
        have HI2 : Hid (I64 v2) := Lib.hid ⟨by omega, by omega⟩
        clear hv1 hv2
        obtain ⟨w5, hw5⟩ : ∃ w5, w5 = w4.alloc (.cells #[.int .i64 v1, .int .i64 v2] 55) := ⟨_, rfl⟩
        obtain ⟨R, hR⟩ : ∃ R, R = w4.heap.size := ⟨_, rfl⟩
        have g0 : Held w5 R [.int .i64 v1, .int .i64 v2] := by subst hw5; exact Held.new hR
        have g1 : Held w5 B [.int .i64 0, .int .i64 0] := by subst hw5; exact F0.out.alloc _
        have g2 : Below B w w5 := by subst hw5; exact FB.out.alloc (by omega) _
        have g3 : w5.heap.size = R + 1 := by subst hw5; simp [hR]
        have g4 : B + 1 ≤ R := by omega
        have G0 := Lib.hid g0
        have G1 := Lib.hid g1
        have G2 := Lib.hid g2
        have HR := Lib.hid hR
        have HW5 := Lib.hid hw5
        obtain ⟨y0, y1, y2, y3⟩ := g1.two
        clear F0 FB g0 g1 g2 hR hw5
        cases k1 with
        | false =>
          have HV2 := Lib.hid (VBAD.out (by
            intro n d h
            apply Classical.byContradiction
            intro h0
            obtain ⟨e1, e2, hv⟩ := SP.out n d h h0
            have bb := valid_bd hv
            have q1 := N1.out
            rw [e1, numRV_itoa (by omega) (by omega)] at q1
            injection q1 with q1 q2
            cases q2))
          have GG1 := G1
          have GG2 := G2
          rw [HW5.out] at y0 y1 y2 y3
          go_wp2_with fail
          rw [← HW5.out, ← HR.out]
          have r := Lib.hid (((GG1.out).set 0 (.int .i64 0)).set 1 (.int .i64 0))
          have rb := Lib.hid ((GG2.out.setCell (p := ⟨B, 0, none⟩) (Nat.le_refl _) (.int .i64 0)).setCell (p := ⟨B, 1, none⟩) (Nat.le_refl _) (.int .i64 0))
          generalize World.setCell _ _ _ = w9 at *
          have r0' := r.out.cell 0
          have r1' := r.out.cell 1
          simp only [List.set_cons_zero, List.set_cons_succ, List.getElem?_cons_zero, List.getElem?_cons_succ] at r0' r1'
          refine bodyPost_ret (by simp [results, Tryz.results77, r0', r1', go_sem]; try rfl) rfl ?_
          exact ⟨by rw [HV2.out], rb.out⟩
        | true =>
          cases k2 with
          | false =>
            have HV2 := Lib.hid (VBAD.out (by
              intro n d h
              apply Classical.byContradiction
              intro h0
              obtain ⟨e1, e2, hv⟩ := SP.out n d h h0
              have bb := valid_bd hv
              have q1 := N2.out
              rw [e2, numRV_itoa (by omega) (by omega)] at q1
              injection q1 with q1 q2
              cases q2))
            have GG1 := G1
            have GG2 := G2
            rw [HW5.out] at y0 y1 y2 y3
            go_wp2_with fail
            rw [← HW5.out, ← HR.out]
            have r := Lib.hid (((GG1.out).set 0 (.int .i64 0)).set 1 (.int .i64 0))
            have rb := Lib.hid ((GG2.out.setCell (p := ⟨B, 0, none⟩) (Nat.le_refl _) (.int .i64 0)).setCell (p := ⟨B, 1, none⟩) (Nat.le_refl _) (.int .i64 0))
            generalize World.setCell _ _ _ = w9 at *
            have r0' := r.out.cell 0
            have r1' := r.out.cell 1
            simp only [List.set_cons_zero, List.set_cons_succ, List.getElem?_cons_zero, List.getElem?_cons_succ] at r0' r1'
            refine bodyPost_ret (by simp [results, Tryz.results77, r0', r1', go_sem]; try rfl) rfl ?_
            exact ⟨by rw [HV2.out], rb.out⟩
          | true =>
            have TX := Lib.hid (textr_any v1 v2 w5 HI1.out HI2.out)
            clear y0 y1 y2 y3
            go_wp2_with fail
            rw [← HW5.out, ← HR.out]
            refine (TX.out).mono ?_
            rintro e w6 ⟨rfl, hb⟩
            have g0 := G0.out.ext hb
            have g1 := G1.out.ext hb
            have GG1 := Lib.hid g1
            have GG2 := Lib.hid (G2.out.trans (hb.mono (by omega)))
            obtain ⟨x0, x1, _, _⟩ := g0.two
            obtain ⟨y0, y1, y2, y3⟩ := g1.two
            clear g0 g1 hb TX HW5
            by_cases hit : textL v1 v2 = s.data.toList
            · have HV2 := Lib.hid (VHIT.out v1 v2 hit HNE.out)
              have eb : ((textB v1 v2).toList == s.toList) = true := by
                rw [beq_iff_eq, Lib.toList_data, Lib.toList_data, textB]; exact hit
              clear hit
              go_wp2_with fail
              have r := Lib.hid (((GG1.out).set 0 (.int .i64 v1)).set 1 (.int .i64 v2))
              have rb := Lib.hid ((GG2.out.setCell (p := ⟨B, 0, none⟩) (Nat.le_refl _) (.int .i64 v1)).setCell (p := ⟨B, 1, none⟩) (Nat.le_refl _) (.int .i64 v2))
              generalize World.setCell _ _ _ = w9 at *
              have r0' := r.out.cell 0
              have r1' := r.out.cell 1
              simp only [List.set_cons_zero, List.set_cons_succ, List.getElem?_cons_zero, List.getElem?_cons_succ] at r0' r1'
              refine bodyPost_ret (by simp [results, Tryz.results77, r0', r1', go_sem]; try rfl) rfl ?_
              exact ⟨by rw [HV2.out], rb.out⟩
            · have HV2 := Lib.hid (VBAD.out (by
                intro n d h
                apply Classical.byContradiction
                intro h0
                obtain ⟨e1, e2, hv⟩ := SP.out n d h h0
                have bb := valid_bd hv
                have q1 := N1.out
                have q2 := N2.out
                rw [e1, numRV_itoa (by omega) (by omega)] at q1
                rw [e2, numRV_itoa (by omega) (by omega)] at q2
                injection q1 with q1 _
                injection q2 with q2 _
                subst q1 q2
                exact hit h))
              have eb : ((textB v1 v2).toList == s.toList) = false := by
                rw [beq_eq_false_iff_ne, Lib.toList_data, Lib.toList_data, textB]; exact hit
              clear hit
              go_wp2_with fail
              have r := Lib.hid (((GG1.out).set 0 (.int .i64 0)).set 1 (.int .i64 0))
              have rb := Lib.hid ((GG2.out.setCell (p := ⟨B, 0, none⟩) (Nat.le_refl _) (.int .i64 0)).setCell (p := ⟨B, 1, none⟩) (Nat.le_refl _) (.int .i64 0))
              generalize World.setCell _ _ _ = w9 at *
              have r0' := r.out.cell 0
              have r1' := r.out.cell 1
              simp only [List.set_cons_zero, List.set_cons_succ, List.getElem?_cons_zero, List.getElem?_cons_succ] at r0' r1'
              refine bodyPost_ret (by simp [results, Tryz.results77, r0', r1', go_sem]; try rfl) rfl ?_
              exact ⟨by rw [HV2.out], rb.out⟩
      · have hcb : (((s[i].toNat : Nat) : Int) != 47) = true := by rw [bne_iff_ne]; omega
        have HNO := Lib.hid (take_not (S := s.data.toList) (by rw [HLN.out]; exact hlt) (fun e => hc (by rw [getB s hlt] at e; rw [e]; rfl)) hno.out)
        clear hc
        go_wp2_with fail
        go_roundw
        case rel => exact ⟨i + 1, by omega, by go_num, HNO, by trivial⟩
        case measure => simp [intOf]; omega
    · have HV2 := Lib.hid (VBAD.out (by
        intro n d h
        apply Classical.byContradiction
        intro h0
        have hv : validV n d = true := textL_ne (by rw [h]; exact h0)
        have hm : 47 ∉ s.data.toList := by
          have := hno.out
          rwa [List.take_of_length_le (by rw [HLN.out]; omega)] at this
        rw [← h, textL_valid hv] at hm
        exact hm (by simp)))
      have GG1 := F0
      have GG2 := FB
      go_wp2_with fail
      have r := Lib.hid (((GG1.out).set 0 (.int .i64 0)).set 1 (.int .i64 0))
      have rb := Lib.hid ((GG2.out.setCell (p := ⟨B, 0, none⟩) (Nat.le_refl _) (.int .i64 0)).setCell (p := ⟨B, 1, none⟩) (Nat.le_refl _) (.int .i64 0))
      generalize World.setCell _ _ _ = w9 at *
      have r0' := r.out.cell 0
      have r1' := r.out.cell 1
      simp only [List.set_cons_zero, List.set_cons_succ, List.getElem?_cons_zero, List.getElem?_cons_succ] at r0' r1'
      refine bodyPost_ret (by simp [results, Tryz.results77, r0', r1', go_sem]; try rfl) rfl ?_
      exact ⟨by rw [HV2.out], rb.out⟩
end Go.Proofs.YteojlodcafogaaaGreatDoor.Q
