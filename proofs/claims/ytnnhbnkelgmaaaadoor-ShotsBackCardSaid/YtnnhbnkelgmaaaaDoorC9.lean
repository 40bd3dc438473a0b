/-
  The contracts of decimal and Text in the reference. Without conditions.
-/
import Derived.Test.YtnnhbnkelgmaaaaDoorC8
import Derived.Laws.BytesArg
namespace Go.Proofs.YtnnhbnkelgmaaaaDoor
open Go.RowKit
set_option linter.unusedVariables false
set_option linter.unusedSimpArgs false
theorem itoa_small {n : Int} (h0 : 0 ≤ n) (h : n < 10) : itoaB n = ⟨#[UInt8.ofNat (48 + n).toNat]⟩ := by
  rw [itoaB, itoa_dec h0, Lib.decDigits, dif_pos (by omega), show (48 + n).toNat = 48 + n.toNat by omega]
theorem itoa_big {n : Int} (h : 10 ≤ n) : itoaB n = itoaB (n / 10) ++ itoaB (n % 10) := by
  have e : Lib.itoa n = Lib.itoa (n / 10) ++ Lib.itoa (n % 10) := by
    rw [itoa_dec (by omega), itoa_dec (by omega), itoa_dec (by omega), Lib.decDigits, dif_neg (by omega)]
    rw [show (n / 10).toNat = n.toNat / 10 by omega, show (n % 10).toNat = n.toNat % 10 by omega]
    congr 1
    rw [Lib.decDigits, dif_pos (Nat.mod_lt _ (by decide))]
  rw [itoaB, e]
  exact ByteArray.ext (by simp [itoaB])
theorem itoaB_size {n : Int} (h0 : 0 ≤ n) (h1 : n ≤ 9223372036854775807) : (itoaB n).size ≤ 21 := by
  have := Lib.itoa_length_le n (by omega) (by omega)
  rw [← len_data]
  exact this
theorem one_string (w : World) (n : Int) :
    (convert 57 9 (.slice (some ⟨w.heap.size, 0, none⟩) 1 1)).run Tryd.prog (w.alloc (.cells #[.int .u8 n] 5)) = .ok (.string ⟨#[UInt8.ofNat n.toNat]⟩) (w.alloc (.cells #[.int .u8 n] 5)) := by
  have := run_convert_bytes_arg (P := Tryd.prog) (w.alloc (.cells #[.int .u8 n] 5)) 57 5 Tryd.underlying57 Tryd.underlying5 w.heap.size 0 1 1 [n] rfl (fun i hi => by
    obtain rfl : i = 0 := by omega
    simp [go_sem]) 9 Tryd.underlying9
  exact this
theorem decimal_any : ∀ (k : Nat) (n : Int) (w : World), n.toNat ≤ k → 0 ≤ n → n ≤ 9223372036854775807 →
    Calls Tryd.prog 37 #[.int .i64 n] w fun e w' => e = .returned (.string (itoaB n)) ∧ Below w.heap.size w w' := by
  intro k
  have small : ∀ (n : Int) (w : World), 0 ≤ n → n < 10 → Calls Tryd.prog 37 #[.int .i64 n] w fun e w' => e = .returned (.string (itoaB n)) ∧ Below w.heap.size w w' := by
    intro n w h0 hs
    have HI := Lib.hid (itoa_small h0 hs)
    have kc := one_string
    go_enter Tryd.func37, Tryd.ntmps37
    go_wp2_with fail
    go_ret
    exact ⟨by rw [HI.out]; rfl, (Below.refl _ _).alloc (Nat.le_refl _) _⟩
  induction k with
  | zero => exact fun n w hk h0 h1 => small n w h0 (by omega)
  | succ k ih =>
    intro n w hk h0 h1
    by_cases hs : n < 10
    · exact small n w h0 hs
    · have HI := Lib.hid (itoa_big (n := n) (by omega))
      have z1 := itoaB_size (n := n / 10) (by omega) (by omega)
      have z2 := itoaB_size (n := n % 10) (by omega) (by omega)
      go_enter Tryd.func37, Tryd.ntmps37
      go_wp2_with fail
      refine (ih (n / 10) _ (by omega) (by omega) (by omega)).mono ?_
      rintro e w' ⟨rfl, hb⟩
      go_wp2_with fail
      refine (ih (n % 10) _ (by omega) (by omega) (by omega)).mono ?_
      rintro e w2 ⟨rfl, hb2⟩
      go_wp2_with fail
      go_ret
      exact ⟨by rw [HI.out]; rfl, hb.trans (hb2.mono hb.size)⟩
theorem textr_bad (A : Option Addr) (c : Nat) (xs : List Int) (w : World) (h : IntsAt w A xs) (hl : xs.length ≤ 9223372036854775807) (h0 : (chkS xs == 0) = false) :
    Calls Tryd.prog 26 #[.slice A xs.length c] w fun e w' => e = .returned (.tuple #[.string (txt xs), .int .i64 (chkS xs)]) ∧ w = w' := by
  have H := Lib.hid h
  have h0' : (chkS xs != 0) = true := by simpa using h0
  rw [txt_bad (by simpa using h0)]
  clear h
  go_enter Tryd.func26, Tryd.ntmps26
  go_wp2_with fail
  refine (checkr_any A c xs _ H.out hl).mono ?_
  rintro e w' ⟨rfl, rfl⟩
  go_wp2_with fail
  go_ret2
  exact ⟨rfl, rfl⟩
theorem textr_none (A : Option Addr) (c : Nat) (xs : List Int) (w : World) (h : IntsAt w A xs) (hl : xs.length ≤ 9223372036854775807) (h0 : chkS xs = 0) (he : xs.length = 0) :
    Calls Tryd.prog 26 #[.slice A xs.length c] w fun e w' => e = .returned (.tuple #[.string (txt xs), .int .i64 0]) ∧ w = w' := by
  have H := Lib.hid h
  have H0 := Lib.hid h0
  have heb := len_beq_true he
  rw [txt_none h0 he]
  clear h h0 he
  go_enter Tryd.func26, Tryd.ntmps26
  go_wp2_with fail
  refine (checkr_any A c xs _ H.out hl).mono ?_
  rintro e w' ⟨rfl, rfl⟩
  rw [H0.out]
  go_wp2_with fail
  go_ret2
  exact ⟨rfl, rfl⟩
def joinB (xs : List Int) (k : Nat) : ByteArray := ⟨(Lib.join ((xs.take k).map Lib.itoa) [32]).toArray⟩
theorem joinB_zero (xs : List Int) : joinB xs 0 = ⟨#[]⟩ := rfl
theorem joinB_one {xs : List Int} (h : 0 < xs.length) : joinB xs 1 = joinB xs 0 ++ itoaB xs[0] := by
  cases xs with
  | nil => cases h
  | cons x xs => exact ByteArray.ext (by simp [joinB, Lib.join_one, Lib.join_nil, itoaB])
theorem joinB_succ {xs : List Int} {k : Nat} (h : k < xs.length) (hk : 0 < k) : joinB xs (k + 1) = joinB xs k ++ ⟨#[32]⟩ ++ itoaB xs[k] := by
  cases xs with
  | nil => cases h
  | cons x xs =>
    obtain ⟨j, rfl⟩ : ∃ j, k = j + 1 := ⟨k - 1, by omega⟩
    have hj : j < xs.length := by simpa using h
    have := Lib.joinTail_take_succ [32] (xs.map Lib.itoa) j (Lib.itoa xs[j]) (by simp [hj])
    refine ByteArray.ext ?_
    simp only [joinB, List.take_succ_cons, List.map_cons, Lib.join_cons, List.getElem_cons_succ, itoaB]
    rw [List.map_take, this, List.map_take]
    simp
theorem joinB_all {xs : List Int} : joinB xs xs.length = ⟨(Lib.join (xs.map Lib.itoa) [32]).toArray⟩ := by rw [joinB, List.take_length]
theorem joinB_size {xs : List Int} (h0 : chkS xs = 0) (k : Nat) : (joinB xs k).size ≤ 8800 := by
  have hl := (chkS_zero h0).1
  have hb := chkS_bd h0
  have := join_bd (xs := xs.take k) (fun j hj => by
    rw [List.length_take] at hj
    have := hb j (by omega)
    rw [List.getD_eq_getElem?_getD, List.getElem?_take, if_pos (by omega), ← List.getD_eq_getElem?_getD]
    exact this)
  have h2 : (xs.take k).length ≤ 400 := by rw [List.length_take]; omega
  have e : (joinB xs k).size = (Lib.join ((xs.take k).map Lib.itoa) [32]).length := (len_data _).symm
  omega
theorem textr_some (A : Option Addr) (c : Nat) (xs : List Int) (w : World) (h : IntsAt w A xs) (hl : xs.length ≤ 9223372036854775807) (h0 : chkS xs = 0) (he : 0 < xs.length) :
    Calls Tryd.prog 26 #[.slice A xs.length c] w fun e w' => e = .returned (.tuple #[.string (txt xs), .int .i64 0]) ∧ Below w.heap.size w w' := by
  have H := Lib.hid h
  have H0 := Lib.hid h0
  have heb := len_beq_false he
  have hlen := (chkS_zero h0).1
  have HBD := Lib.hid (chkS_bd h0)
  obtain ⟨T, hT⟩ : ∃ T, T = txt xs := ⟨_, rfl⟩
  rw [← hT]
  have HTX := Lib.hid (hT.trans (txt_some h0 he))
  obtain ⟨B, hB⟩ : ∃ B, B = w.heap.size := ⟨_, rfl⟩
  have HB := Lib.hid hB
  clear h h0 hT
  rw [← hB]
  clear hB
  go_enter Tryd.func26, Tryd.ntmps26
  go_wp2_with fail
  refine (checkr_any A c xs _ H.out hl).mono ?_
  rintro e w' ⟨rfl, rfl⟩
  rw [H0.out]
  go_wp2_with fail
  go_loopw [18, 5] (fun i v wr => ∃ k : Nat, k ≤ xs.length ∧ i = .int .i64 k ∧ v = .string (joinB xs k) ∧ Hid (Below B w wr) ∧ B ≤ wr.heap.size) (fun i _ _ => xs.length - (intOf i).toNat)
  case atStart => exact ⟨0, by omega, rfl, rfl, Lib.hid (Below.refl _ _), by rw [HB.out]; exact Nat.le_refl _⟩
  case round =>
    obtain ⟨k, hk, rfl, rfl, hbel, hsz⟩ := hrel
    by_cases hlt : k < xs.length
    · obtain ⟨b2, off, rfl, hc⟩ := (H.out.below hbel.out (by rw [HB.out]; exact Nat.le_refl _)).get hlt
      have hbk := HBD.out k hlt
      have z1 := joinB_size H0.out k
      have z2 := itoaB_size (n := xs.getD k 0) (by omega) (by omega)
      by_cases hk0 : k = 0
      · subst hk0
        rw [Nat.add_zero] at hc
        have HJ := Lib.hid (joinB_one hlt)
        rw [show xs[0] = xs.getD 0 0 by simp [hlt]] at HJ
        generalize xs.getD 0 0 = x at *
        go_wp2_with fail
        refine (decimal_any _ x _ (Nat.le_refl _) (by omega) (by omega)).mono ?_
        rintro e w' ⟨rfl, hb'⟩
        have hbel1 := Lib.hid (hbel.out.trans (hb'.mono hsz))
        have hsz1 := Nat.le_trans hsz hb'.size
        clear hb'
        go_wp2_with fail
        go_roundw
        case rel => exact ⟨1, by omega, by go_num, by rw [HJ.out], hbel1, hsz1⟩
        case measure => simp [intOf]; omega
      · have HJ := Lib.hid (joinB_succ hlt (by omega))
        rw [show xs[k] = xs.getD k 0 by simp [hlt]] at HJ
        generalize xs.getD k 0 = x at *
        go_wp2_with fail
        refine (decimal_any _ x _ (Nat.le_refl _) (by omega) (by omega)).mono ?_
        rintro e w' ⟨rfl, hb'⟩
        have hbel1 := Lib.hid (hbel.out.trans (hb'.mono hsz))
        have hsz1 := Nat.le_trans hsz hb'.size
        clear hb'
        go_wp2_with fail
        go_roundw
        case rel => exact ⟨k + 1, by omega, by go_num, by rw [HJ.out], hbel1, hsz1⟩
        case measure => simp [intOf]; omega
    · have hkn : k = xs.length := by omega
      subst hkn
      go_wp2_with fail
      go_ret2
      exact ⟨by rw [HTX.out, ← joinB_all]; rfl, hbel.out⟩
end Go.Proofs.YtnnhbnkelgmaaaaDoor
