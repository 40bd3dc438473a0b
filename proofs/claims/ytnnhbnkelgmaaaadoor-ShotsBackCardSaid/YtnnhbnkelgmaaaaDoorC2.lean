/-
  The contracts of usable, tooClose, Close and Snap, in the program and in the reference. Their conditions are their hypotheses.
-/
import Derived.Test.YtnnhbnkelgmaaaaDoorC1
namespace Go.Proofs.YtnnhbnkelgmaaaaDoor
open Go.RowKit
set_option linter.unusedVariables false
theorem i2 : (Tryd.prog.info? 2).map (fun i => (i.zero, i.size, i.bytes)) = some (some (.int .i64 0), 1, 8) := by kernel_rfl
/-- What usable says. -/
def usb (xs : List Int) (f b a : Int) : Bool := (chkS xs == 0) && fr f && fr b && fr a
theorem usb_of {xs : List Int} {f b a : Int} (h : usb xs f b a = true) : chkS xs = 0 ∧ fr f = true ∧ fr b = true ∧ fr a = true := by
  simp [usb] at h
  exact ⟨h.1.1.1, h.1.1.2, h.1.2, h.2⟩
def tcV (f b a : Int) (xs : List Int) : Int × Bool := match tooC f b a xs with | some c => (c, true) | none => (0, false)
theorem tcV_some {f b a : Int} {xs : List Int} {c : Int} (h : tooC f b a xs = some c) : tcV f b a xs = (c, true) := by simp [tcV, h]
theorem tcV_none {f b a : Int} {xs : List Int} (h : tooC f b a xs = none) : tcV f b a xs = (0, false) := by simp [tcV, h]
theorem tooC_bad {f b a c : Int} {r : List Int} (h : bad1 f b a c = true) : tooC f b a (c :: r) = some c := by simp [tooC, h]
theorem tooC_good {f b a c : Int} {r : List Int} (h : bad1 f b a c = false) : tooC f b a (c :: r) = tooC f b a r := by simp [tooC, h]
theorem usable_any (A : Option Addr) (c : Nat) (xs : List Int) (f b a : Int) (w : World) (h : IntsAt w A xs) (hl : xs.length ≤ 9223372036854775807) :
    Calls Tryd.prog 33 #[.slice A xs.length c, .int .i64 f, .int .i64 b, .int .i64 a] w fun e w' => e = .returned (.bool (usb xs f b a)) ∧ w = w' := by
  have H := Lib.hid h
  clear h
  cases h0 : (chkS xs == 0) with
  | false =>
    rw [show usb xs f b a = false by simp [usb, h0]]
    go_enter Tryd.func33, Tryd.ntmps33
    go_wp2_with fail
    refine (check_any A c xs _ H.out hl).mono ?_
    rintro e w' ⟨rfl, rfl⟩
    go_wp2_with fail
    go_ret
    exact ⟨rfl, rfl⟩
  | true =>
    cases h1 : fr f with
    | false =>
      rw [show usb xs f b a = false by simp [usb, h1]]
      go_enter Tryd.func33, Tryd.ntmps33
      go_wp2_with fail
      refine (check_any A c xs _ H.out hl).mono ?_
      rintro e w' ⟨rfl, rfl⟩
      go_wp2_with fail
      refine (frame_any f _).mono ?_
      rintro e w' ⟨rfl, rfl⟩
      go_wp2_with fail
      go_ret
      exact ⟨rfl, rfl⟩
    | true =>
      cases h2 : fr b with
      | false =>
        rw [show usb xs f b a = false by simp [usb, h2]]
        go_enter Tryd.func33, Tryd.ntmps33
        go_wp2_with fail
        refine (check_any A c xs _ H.out hl).mono ?_
        rintro e w' ⟨rfl, rfl⟩
        go_wp2_with fail
        refine (frame_any f _).mono ?_
        rintro e w' ⟨rfl, rfl⟩
        go_wp2_with fail
        refine (frame_any b _).mono ?_
        rintro e w' ⟨rfl, rfl⟩
        go_wp2_with fail
        go_ret
        exact ⟨rfl, rfl⟩
      | true =>
        rw [show usb xs f b a = fr a by simp [usb, h0, h1, h2]]
        generalize hx : fr a = x at *
        have HX := Lib.hid hx
        clear hx
        go_enter Tryd.func33, Tryd.ntmps33
        go_wp2_with fail
        refine (check_any A c xs _ H.out hl).mono ?_
        rintro e w' ⟨rfl, rfl⟩
        go_wp2_with fail
        refine (frame_any f _).mono ?_
        rintro e w' ⟨rfl, rfl⟩
        go_wp2_with fail
        refine (frame_any b _).mono ?_
        rintro e w' ⟨rfl, rfl⟩
        go_wp2_with fail
        refine (frame_any a _).mono ?_
        rintro e w' ⟨rfl, rfl⟩
        rw [HX.out]
        go_wp2_with fail
        go_ret
        exact ⟨rfl, rfl⟩

theorem tooClose_any (A : Option Addr) (c : Nat) (xs : List Int) (f b a : Int) (w : World) (h : IntsAt w A xs) (hl : xs.length ≤ 9223372036854775807) (h0 : chkS xs = 0) (hf : fr f = true) (hb : fr b = true) (ha : fr a = true) :
    Calls Tryd.prog 34 #[.slice A xs.length c, .int .i64 f, .int .i64 b, .int .i64 a] w fun e w' => e = .returned (.tuple #[.int .i64 (tcV f b a xs).1, .bool (tcV f b a xs).2]) ∧ w = w' := by
  have H := Lib.hid h
  have HBD := Lib.hid (chkS_bd h0)
  have gf := fr_of hf
  have gb := fr_of hb
  have ga := fr_of ha
  clear h h0 hf hb ha
  go_enter Tryd.func34, Tryd.ntmps34
  go_wp2_with fail
  go_loop [14] (fun i => ∃ k : Nat, k ≤ xs.length ∧ i = .int .i64 k ∧ tooC f b a xs = tooC f b a (xs.drop k)) (fun i => xs.length - (intOf i).toNat)
  case atStart => exact ⟨0, by omega, rfl, rfl⟩
  case round =>
    obtain ⟨k, hk, rfl, hv⟩ := hrel
    have HV := Lib.hid hv
    clear hv
    by_cases hlt : k < xs.length
    · obtain ⟨b2, off, rfl, hc⟩ := H.out.get hlt
      have hbk := HBD.out k hlt
      have HD := Lib.hid (drop_cons hlt)
      generalize xs.getD k 0 = x at *
      go_wp2_with fail
      all_goals first
        | (go_ret2
           refine ⟨?_, rfl⟩
           rw [tcV_some (HV.out.trans (by rw [HD.out]; exact tooC_bad (by simp [bad1]; omega)))]; rfl)
        | (refine ⟨⟨k + 1, by omega, by go_num, HV.out.trans (by rw [HD.out]; exact tooC_good (by simp [bad1]; omega))⟩, by simp [intOf]; omega⟩)
    · go_wp2_with fail
      go_ret2
      refine ⟨?_, rfl⟩
      rw [tcV_none (HV.out.trans (by rw [List.drop_eq_nil_of_le (by omega)]; rfl))]; rfl

theorem close_no (A : Option Addr) (c : Nat) (xs : List Int) (f b a : Int) (w : World) (h : IntsAt w A xs) (hl : xs.length ≤ 9223372036854775807) (hu : usb xs f b a = false) :
    Calls Tryd.prog 16 #[.slice A xs.length c, .int .i64 f, .int .i64 b, .int .i64 a] w fun e w' => e = .returned (.tuple #[.int .i64 0, .bool false]) ∧ w = w' := by
  have H := Lib.hid h
  have HU := Lib.hid hu
  clear h hu
  go_enter Tryd.func16, Tryd.ntmps16
  go_wp2_with fail
  refine (usable_any A c xs f b a _ H.out hl).mono ?_
  rintro e w' ⟨rfl, rfl⟩
  rw [HU.out]
  go_wp2_with fail
  go_ret2
  exact ⟨rfl, rfl⟩
theorem close_yes (A : Option Addr) (c : Nat) (xs : List Int) (f b a : Int) (w : World) (h : IntsAt w A xs) (hl : xs.length ≤ 9223372036854775807) (hu : usb xs f b a = true) :
    Calls Tryd.prog 16 #[.slice A xs.length c, .int .i64 f, .int .i64 b, .int .i64 a] w fun e w' => e = .returned (.tuple #[.int .i64 (tcV f b a xs).1, .bool (tcV f b a xs).2]) ∧ w = w' := by
  have H := Lib.hid h
  have HU := Lib.hid hu
  clear h hu
  obtain ⟨u0, u1, u2, u3⟩ := usb_of HU.out
  have HU0 := Lib.hid u0
  clear u0 u1 u2 u3
  go_enter Tryd.func16, Tryd.ntmps16
  go_wp2_with fail
  refine (usable_any A c xs f b a _ H.out hl).mono ?_
  rintro e w' ⟨rfl, rfl⟩
  rw [HU.out]
  go_wp2_with fail
  refine (tooClose_any A c xs f b a _ H.out hl HU0.out (usb_of HU.out).2.1 (usb_of HU.out).2.2.1 (usb_of HU.out).2.2.2).mono ?_
  rintro e w' ⟨rfl, rfl⟩
  go_wp2_with fail
  go_ret2
  exact ⟨rfl, rfl⟩

theorem closer_no (A : Option Addr) (c : Nat) (xs : List Int) (f b a : Int) (w : World) (h : IntsAt w A xs) (hl : xs.length ≤ 9223372036854775807) (hu : usb xs f b a = false) :
    Calls Tryd.prog 17 #[.slice A xs.length c, .int .i64 f, .int .i64 b, .int .i64 a] w fun e w' => e = .returned (.tuple #[.int .i64 0, .bool false]) ∧ w = w' := by
  have H := Lib.hid h
  have HU := Lib.hid hu
  clear h hu
  cases h0 : (chkS xs == 0) with
  | false =>
    have h0' : (chkS xs != 0) = true := by simpa using h0
    go_enter Tryd.func17, Tryd.ntmps17
    go_wp2_with fail
    refine (checkr_any A c xs _ H.out hl).mono ?_
    rintro e w' ⟨rfl, rfl⟩
    go_wp2_with fail
    go_ret2
    exact ⟨rfl, rfl⟩
  | true =>
    have h00 : chkS xs = 0 := by simpa using h0
    have H0 := Lib.hid h00
    clear h0 h00
    cases hf : fr f with
    | false =>
      go_enter Tryd.func17, Tryd.ntmps17
      go_wp2_with fail
      refine (checkr_any A c xs _ H.out hl).mono ?_
      rintro e w' ⟨rfl, rfl⟩
      rw [H0.out]
      go_wp2_with fail
      refine (framer_any f _).mono ?_
      rintro e w' ⟨rfl, rfl⟩
      rw [hf]
      go_wp2_with fail
      go_ret2
      exact ⟨rfl, rfl⟩
    | true =>
      cases hb : fr b with
      | false =>
        go_enter Tryd.func17, Tryd.ntmps17
        go_wp2_with fail
        refine (checkr_any A c xs _ H.out hl).mono ?_
        rintro e w' ⟨rfl, rfl⟩
        rw [H0.out]
        go_wp2_with fail
        refine (framer_any f _).mono ?_
        rintro e w' ⟨rfl, rfl⟩
        rw [hf]
        go_wp2_with fail
        refine (framer_any b _).mono ?_
        rintro e w' ⟨rfl, rfl⟩
        rw [hb]
        go_wp2_with fail
        go_ret2
        exact ⟨rfl, rfl⟩
      | true =>
        have ha : fr a = false := by have := HU.out; simpa [usb, H0.out, hf, hb] using this
        go_enter Tryd.func17, Tryd.ntmps17
        go_wp2_with fail
        refine (checkr_any A c xs _ H.out hl).mono ?_
        rintro e w' ⟨rfl, rfl⟩
        rw [H0.out]
        go_wp2_with fail
        refine (framer_any f _).mono ?_
        rintro e w' ⟨rfl, rfl⟩
        rw [hf]
        go_wp2_with fail
        refine (framer_any b _).mono ?_
        rintro e w' ⟨rfl, rfl⟩
        rw [hb]
        go_wp2_with fail
        refine (framer_any a _).mono ?_
        rintro e w' ⟨rfl, rfl⟩
        rw [ha]
        go_wp2_with fail
        go_ret2
        exact ⟨rfl, rfl⟩
theorem closer_yes (A : Option Addr) (c : Nat) (xs : List Int) (f b a : Int) (w : World) (h : IntsAt w A xs) (hl : xs.length ≤ 9223372036854775807) (hu : usb xs f b a = true) :
    Calls Tryd.prog 17 #[.slice A xs.length c, .int .i64 f, .int .i64 b, .int .i64 a] w fun e w' => e = .returned (.tuple #[.int .i64 (tcV f b a xs).1, .bool (tcV f b a xs).2]) ∧ w = w' := by
  have H := Lib.hid h
  obtain ⟨h0, hf, hb, ha⟩ := usb_of hu
  have H0 := Lib.hid h0
  have HBD := Lib.hid (chkS_bd h0)
  have gf := fr_of hf
  have gb := fr_of hb
  have ga := fr_of ha
  clear h h0 hu
  go_enter Tryd.func17, Tryd.ntmps17
  go_wp2_with fail
  refine (checkr_any A c xs _ H.out hl).mono ?_
  rintro e w' ⟨rfl, rfl⟩
  rw [H0.out]
  go_wp2_with fail
  refine (framer_any f _).mono ?_
  rintro e w' ⟨rfl, rfl⟩
  rw [hf]
  go_wp2_with fail
  refine (framer_any b _).mono ?_
  rintro e w' ⟨rfl, rfl⟩
  rw [hb]
  go_wp2_with fail
  refine (framer_any a _).mono ?_
  rintro e w' ⟨rfl, rfl⟩
  rw [ha]
  clear hf hb ha
  go_wp2_with fail
  go_loop [32] (fun i => ∃ k : Nat, k ≤ xs.length ∧ i = .int .i64 k ∧ tooC f b a xs = tooC f b a (xs.drop k)) (fun i => xs.length - (intOf i).toNat)
  case atStart => exact ⟨0, by omega, rfl, rfl⟩
  case round =>
    obtain ⟨k, hk, rfl, hv⟩ := hrel
    have HV := Lib.hid hv
    clear hv
    by_cases hlt : k < xs.length
    · obtain ⟨b2, off, rfl, hc⟩ := H.out.get hlt
      have hbk := HBD.out k hlt
      have HD := Lib.hid (drop_cons hlt)
      generalize xs.getD k 0 = x at *
      go_wp2_with fail
      all_goals first
        | (go_ret2
           refine ⟨?_, rfl⟩
           rw [tcV_some (HV.out.trans (by rw [HD.out]; exact tooC_bad (by simp [bad1]; omega)))]; rfl)
        | (refine ⟨⟨k + 1, by omega, by go_num, HV.out.trans (by rw [HD.out]; exact tooC_good (by simp [bad1]; omega))⟩, by simp [intOf]; omega⟩)
    · go_wp2_with fail
      go_ret2
      refine ⟨?_, rfl⟩
      rw [tcV_none (HV.out.trans (by rw [List.drop_eq_nil_of_le (by omega)]; rfl))]; rfl

end Go.Proofs.YtnnhbnkelgmaaaaDoor
