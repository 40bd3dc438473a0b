/-
  The contracts of Shot, in the program and in the reference. Their conditions are their hypotheses.
-/
import Derived.Test.YtnnhbnkelgmaaaaDoorC5
namespace Go.Proofs.YtnnhbnkelgmaaaaDoor
open Go.RowKit
set_option linter.unusedVariables false
set_option linter.unusedSimpArgs false

theorem shot_no (A : Option Addr) (c : Nat) (xs : List Int) (f : Int) (w : World) (h : IntsAt w A xs) (hl : xs.length ≤ 9223372036854775807) (hb : (chkS xs == 0) = false ∨ fr f = false) :
    Calls Tryd.prog 20 #[.slice A xs.length c, .int .i64 f] w fun e w' => e = .returned (.tuple #[.agg #[.int .i64 0, .int .i64 0], .bool false]) ∧ Below w.heap.size w w' := by
  have H := Lib.hid h
  have HBD := Lib.hid hb
  clear h hb
  have hbl : Below w.heap.size w (w.alloc (.cells #[.int .i64 0, .int .i64 0] 36)) := (Below.refl _ _).alloc (Nat.le_refl _) _
  have HBL := Lib.hid hbl
  clear hbl
  cases h0 : (chkS xs == 0) with
  | false =>
    have h0' : (chkS xs != 0) = true := by simpa using h0
    go_enter Tryd.func20, Tryd.ntmps20
    go_wp2_with fail
    refine (check_any A c xs _ (H.out.ext HBL.out) hl).mono ?_
    rintro e w' ⟨rfl, rfl⟩
    go_wp2_with fail
    go_returns
    exact ⟨rfl, HBL.out⟩
  | true =>
    have h00 : chkS xs = 0 := by simpa using h0
    have hf : fr f = false := by rcases HBD.out with h | h; rw [h0] at h; cases h; exact h
    have H0 := Lib.hid h00
    clear h0 h00
    go_enter Tryd.func20, Tryd.ntmps20
    go_wp2_with fail
    refine (check_any A c xs _ (H.out.ext HBL.out) hl).mono ?_
    rintro e w' ⟨rfl, rfl⟩
    rw [H0.out]
    go_wp2_with fail
    refine (frame_any f _).mono ?_
    rintro e w' ⟨rfl, rfl⟩
    rw [hf]
    go_wp2_with fail
    go_returns
    exact ⟨rfl, HBL.out⟩

theorem shotr_no (A : Option Addr) (c : Nat) (xs : List Int) (f : Int) (w : World) (h : IntsAt w A xs) (hl : xs.length ≤ 9223372036854775807) (hb : (chkS xs == 0) = false ∨ fr f = false) :
    Calls Tryd.prog 21 #[.slice A xs.length c, .int .i64 f] w fun e w' => e = .returned (.tuple #[.agg #[.int .i64 0, .int .i64 0], .bool false]) ∧ Below w.heap.size w w' := by
  have H := Lib.hid h
  have HBD := Lib.hid hb
  clear h hb
  have hbl : Below w.heap.size w (w.alloc (.cells #[.int .i64 0, .int .i64 0] 36)) := (Below.refl _ _).alloc (Nat.le_refl _) _
  have HBL := Lib.hid hbl
  clear hbl
  cases h0 : (chkS xs == 0) with
  | false =>
    have h0' : (chkS xs != 0) = true := by simpa using h0
    go_enter Tryd.func21, Tryd.ntmps21
    go_wp2_with fail
    refine (checkr_any A c xs _ (H.out.ext HBL.out) hl).mono ?_
    rintro e w' ⟨rfl, rfl⟩
    go_wp2_with fail
    go_returns
    exact ⟨rfl, HBL.out⟩
  | true =>
    have h00 : chkS xs = 0 := by simpa using h0
    have hf : fr f = false := by rcases HBD.out with h | h; rw [h0] at h; cases h; exact h
    have H0 := Lib.hid h00
    clear h0 h00
    go_enter Tryd.func21, Tryd.ntmps21
    go_wp2_with fail
    refine (checkr_any A c xs _ (H.out.ext HBL.out) hl).mono ?_
    rintro e w' ⟨rfl, rfl⟩
    rw [H0.out]
    go_wp2_with fail
    refine (framer_any f _).mono ?_
    rintro e w' ⟨rfl, rfl⟩
    rw [hf]
    go_wp2_with fail
    go_returns
    exact ⟨rfl, HBL.out⟩

theorem shot_yes (A : Option Addr) (c : Nat) (xs : List Int) (f : Int) (w : World) (h : IntsAt w A xs) (hl : xs.length ≤ 9223372036854775807) (h0 : chkS xs = 0) (hf : fr f = true) :
    Calls Tryd.prog 20 #[.slice A xs.length c, .int .i64 f] w fun e w' => e = .returned (.tuple #[.agg #[.int .i64 (shotG f 0 xs).1, .int .i64 (shotG f 0 xs).2], .bool true]) ∧ Below w.heap.size w w' := by
  have H := Lib.hid h
  have H0 := Lib.hid h0
  have HF := Lib.hid hf
  have hbl : Below w.heap.size w (w.alloc (.cells #[.int .i64 0, .int .i64 0] 36)) := (Below.refl _ _).alloc (Nat.le_refl _) _
  have HBL := Lib.hid hbl
  clear h h0 hf hbl
  obtain ⟨V, hV⟩ : ∃ V, V = shotG f 0 xs := ⟨_, rfl⟩
  rw [← hV]
  have HV := Lib.hid hV
  clear hV
  go_enter Tryd.func20, Tryd.ntmps20
  go_wp2_with fail
  refine (check_any A c xs _ (H.out.ext HBL.out) hl).mono ?_
  rintro e w' ⟨rfl, rfl⟩
  rw [H0.out]
  go_wp2_with fail
  refine (frame_any f _).mono ?_
  rintro e w' ⟨rfl, rfl⟩
  rw [HF.out]
  go_wp2_with fail
  go_loopw [21] (fun iv wr => ∃ (k : Nat) (i : Int), k ≤ xs.length ∧ iv = .int .i64 k ∧ wr = (w.alloc (.cells #[.int .i64 0, .int .i64 0] 36)).alloc (.cells #[.int .i64 i, .int .i64 5184001] 36) ∧ Hid (V = shotG f i (xs.drop k))) (fun iv _ => xs.length - (intOf iv).toNat)
  case atStart => exact ⟨0, 0, by omega, rfl, rfl, Lib.hid HV.out⟩
  case round =>
    obtain ⟨k, i, hk, rfl, rfl, hv⟩ := hrel
    by_cases hlt : k < xs.length
    · obtain ⟨b, off, rfl, hc⟩ := H.out.get hlt
      have hbl := World.block_lt_of_cell? w _ hc
      dsimp only at hbl
      have HD := Lib.hid (drop_cons hlt)
      generalize xs.getD k 0 = x at *
      by_cases hx : x ≤ f
      · have hv2 := Lib.hid (hv.out.trans (by rw [HD.out, shotG, if_pos hx]))
        clear hv HD
        go_wp2_with fail
        go_roundw
        case rel => exact ⟨k + 1, x, by omega, by go_num, rfl, Lib.hid hv2.out⟩
        case measure => simp [intOf]; omega
      · have hv2 := Lib.hid (hv.out.trans (by rw [HD.out, shotG, if_neg hx]))
        clear hv HD
        go_wp2_with fail
        go_returns
        exact ⟨by rw [hv2.out], ((Below.refl _ _).alloc (Nat.le_refl _) _).alloc (by simp) _⟩
    · have hv2 := Lib.hid (show V = (i, 5184001) from hv.out.trans (by rw [List.drop_eq_nil_of_le (by omega)] <;> rfl))
      clear hv
      go_wp2_with fail
      go_returns
      exact ⟨by rw [hv2.out], ((Below.refl _ _).alloc (Nat.le_refl _) _).alloc (by simp) _⟩

theorem shotr_yes (A : Option Addr) (c : Nat) (xs : List Int) (f : Int) (w : World) (h : IntsAt w A xs) (hl : xs.length ≤ 9223372036854775807) (h0 : chkS xs = 0) (hf : fr f = true) :
    Calls Tryd.prog 21 #[.slice A xs.length c, .int .i64 f] w fun e w' => e = .returned (.tuple #[.agg #[.int .i64 (shotG f 0 xs).1, .int .i64 (shotG f 0 xs).2], .bool true]) ∧ Below w.heap.size w w' := by
  have H := Lib.hid h
  have H0 := Lib.hid h0
  have HF := Lib.hid hf
  have hbl : Below w.heap.size w (w.alloc (.cells #[.int .i64 0, .int .i64 0] 36)) := (Below.refl _ _).alloc (Nat.le_refl _) _
  have HBL := Lib.hid hbl
  rw [shotG_eq (i := 0) (f := f) (rising_of (chkS_lt h0))]
  clear h h0 hf hbl
  obtain ⟨V, hV⟩ : ∃ V, V = inG f 0 xs := ⟨_, rfl⟩
  obtain ⟨U, hU⟩ : ∃ U, U = outG f xs := ⟨_, rfl⟩
  rw [← hV, ← hU]
  have HV := Lib.hid hV
  have HU := Lib.hid hU
  clear hV hU
  go_enter Tryd.func21, Tryd.ntmps21
  go_wp2_with fail
  refine (checkr_any A c xs _ (H.out.ext HBL.out) hl).mono ?_
  rintro e w' ⟨rfl, rfl⟩
  rw [H0.out]
  go_wp2_with fail
  refine (framer_any f _).mono ?_
  rintro e w' ⟨rfl, rfl⟩
  rw [HF.out]
  go_wp2_with fail
  go_loopw [23] (fun iv wr => ∃ (k : Nat) (i : Int), k ≤ xs.length ∧ iv = .int .i64 k ∧ wr = (w.alloc (.cells #[.int .i64 0, .int .i64 0] 36)).alloc (.cells #[.int .i64 i, .int .i64 5184001] 36) ∧ Hid (V = inG f i (xs.drop k))) (fun iv _ => xs.length - (intOf iv).toNat)
  case atStart => exact ⟨0, 0, by omega, rfl, rfl, Lib.hid HV.out⟩
  case round =>
    obtain ⟨k, i, hk, rfl, rfl, hv⟩ := hrel
    by_cases hlt : k < xs.length
    · obtain ⟨b, off, rfl, hc⟩ := H.out.get hlt
      have hbl := World.block_lt_of_cell? w _ hc
      dsimp only at hbl
      have HD := Lib.hid (drop_cons hlt)
      generalize xs.getD k 0 = x at *
      by_cases hx : x ≤ f
      · have hv2 := Lib.hid (hv.out.trans (by rw [HD.out, inG, if_pos hx]))
        clear hv HD
        go_wp2_with fail
        go_roundw
        case rel => exact ⟨k + 1, x, by omega, by go_num, rfl, Lib.hid hv2.out⟩
        case measure => simp [intOf]; omega
      · have hv2 := Lib.hid (hv.out.trans (by rw [HD.out, inG, if_neg hx]))
        clear hv HD
        go_wp2_with fail
        go_roundw
        case rel => exact ⟨k + 1, i, by omega, by go_num, rfl, Lib.hid hv2.out⟩
        case measure => simp [intOf]; omega
    · have hv2 := Lib.hid (show V = i from hv.out.trans (by rw [List.drop_eq_nil_of_le (by omega)] <;> rfl))
      clear hv
      go_wp2_with fail
      go_loopw [35] (fun iv wr => ∃ (k : Nat), k ≤ xs.length ∧ iv = .int .i64 k ∧ wr = (w.alloc (.cells #[.int .i64 0, .int .i64 0] 36)).alloc (.cells #[.int .i64 i, .int .i64 5184001] 36) ∧ Hid (U = outG f (xs.drop k))) (fun iv _ => xs.length - (intOf iv).toNat)
      case atStart => exact ⟨0, by omega, rfl, rfl, Lib.hid HU.out⟩
      case round =>
        obtain ⟨k, hk, rfl, rfl, hu⟩ := hrel
        by_cases hlt2 : k < xs.length
        · obtain ⟨b, off, rfl, hc⟩ := H.out.get hlt2
          have hbl := World.block_lt_of_cell? w _ hc
          dsimp only at hbl
          have HD := Lib.hid (drop_cons hlt2)
          generalize xs.getD k 0 = x at *
          by_cases hx : f < x
          · have hu2 := Lib.hid (hu.out.trans (by rw [HD.out, outG, if_pos hx]))
            clear hu HD
            go_wp2_with fail
            go_returns
            exact ⟨by rw [hv2.out, hu2.out], ((Below.refl _ _).alloc (Nat.le_refl _) _).alloc (by simp) _⟩
          · have hu2 := Lib.hid (hu.out.trans (by rw [HD.out, outG, if_neg hx]))
            clear hu HD
            go_wp2_with fail
            go_roundw
            case rel => exact ⟨k + 1, by omega, by go_num, (by first | trivial | rfl), Lib.hid hu2.out⟩
            case measure => simp [intOf]; omega
        · have hu2 := Lib.hid (show U = 5184001 from hu.out.trans (by rw [List.drop_eq_nil_of_le (by omega)] <;> rfl))
          clear hu
          go_wp2_with fail
          go_returns
          exact ⟨by rw [hv2.out, hu2.out], ((Below.refl _ _).alloc (Nat.le_refl _) _).alloc (by simp) _⟩

end Go.Proofs.YtnnhbnkelgmaaaaDoor
