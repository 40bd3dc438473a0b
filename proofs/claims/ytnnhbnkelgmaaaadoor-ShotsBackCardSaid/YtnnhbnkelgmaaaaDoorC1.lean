/-
  The contracts of Check, frame, size, Near, tooClose and Close, in the program and in the reference. Their conditions are their hypotheses.
-/
import Derived.Test.YtnnhbnkelgmaaaaDoorLib
import Derived.Test.YtnnhbnkelgmaaaaDoorPl
namespace Go.Proofs.YtnnhbnkelgmaaaaDoor
open Go.RowKit
set_option linter.unusedVariables false
theorem len_beq_true {n : Nat} (h : n = 0) : ((n : Int) == 0) = true := by subst h; rfl
theorem len_beq_false {n : Nat} (h : 0 < n) : ((n : Int) == 0) = false := by rw [beq_eq_false_iff_ne]; omega
theorem sz_neg {n : Int} (h : n < 0) : sz n = -n := by simp [sz, h]
theorem sz_pos {n : Int} (h : ¬ n < 0) : sz n = n := by simp [sz, h]
theorem sz_bd {n : Int} (h1 : -100000000 ≤ n) (h2 : n ≤ 100000000) : 0 ≤ sz n ∧ sz n ≤ 100000000 := by unfold sz; split <;> omega
theorem check_any (A : Option Addr) (c : Nat) (xs : List Int) (w : World) (h : IntsAt w A xs) (hl : xs.length ≤ 9223372036854775807) :
    Calls Tryd.prog 14 #[.slice A xs.length c] w fun e w' => e = .returned (.int .i64 (chkS xs)) ∧ w = w' := by
  have H := Lib.hid h
  clear h
  by_cases h4 : 400 < xs.length
  · have hv : chkS xs = 9 := by simp [chkS, h4]
    rw [hv]
    clear hv
    go_enter Tryd.func14, Tryd.ntmps14
    go_wp2
    go_ret
    exact ⟨rfl, rfl⟩
  · have hv : chkS xs = chkF xs xs.length 0 := by simp [chkS, h4]
    rw [hv]
    clear hv
    go_enter Tryd.func14, Tryd.ntmps14
    go_wp2
    go_loop [10] (fun i => ∃ k : Nat, k ≤ xs.length ∧ i = .int .i64 k ∧ chkF xs xs.length 0 = chkF xs (xs.length - k) k) (fun i => xs.length - (intOf i).toNat)
    case atStart => exact ⟨0, by omega, rfl, rfl⟩
    case round =>
      obtain ⟨k, hk, rfl, hv⟩ := hrel
      have HV := Lib.hid hv
      clear hv
      by_cases hlt : k < xs.length
      · obtain ⟨b, off, rfl, hc⟩ := H.out.get hlt
        obtain ⟨m, hm⟩ : ∃ m, xs.length - k = m + 1 := ⟨xs.length - k - 1, by omega⟩
        have HM := Lib.hid hm
        clear hm
        rcases k with _ | j
        · generalize hx : xs.getD 0 0 = x at *
          have HX := Lib.hid hx
          clear hx
          have h0 : (0 : Int) < (xs.length : Int) := by omega
          rw [show ((0 : Nat) : Int) = 0 from rfl]
          rw [show off + 0 = off from rfl] at hc
          go_wp2
          all_goals first
            | (go_round
               case rel => exact ⟨1, by omega, rfl, by rw [HV.out, HM.out, chkF_step_ok (chkAt_zero_ok HX.out (by omega) (by omega)), show xs.length - 1 = m by have := HM.out; omega]⟩
               case measure => simp [intOf]; omega)
            | (go_ret
               refine ⟨?_, rfl⟩
               rw [HV.out, HM.out, chkF_bad (chkAt_bad HX.out (by omega)) (by omega)]
               rfl)
        · obtain ⟨b2, off2, e2, hc2⟩ := H.out.get (k := j) (by omega)
          cases e2
          generalize hx : xs.getD (j + 1) 0 = x at *
          generalize hy : xs.getD j 0 = y at *
          have HX := Lib.hid hx
          have HY := Lib.hid hy
          clear hx hy
          have h0 : (j : Int) + 1 < (xs.length : Int) := by omega
          have h1 : (0 : Int) ≤ (j : Int) + 1 := by omega
          have h2 : (0 : Int) < (j : Int) + 1 := by omega
          have e1 : ((j + 1 : Nat) : Int) = (j : Int) + 1 := by omega
          rw [e1]
          clear e1
          go_wp2
          all_goals first
            | (go_ret
               refine ⟨?_, rfl⟩
               first
                 | (rw [HV.out, HM.out, chkF_bad (chkAt_bad HX.out (by omega)) (by omega)]; rfl)
                 | (rw [HV.out, HM.out, chkF_bad (chkAt_order HX.out HY.out (by omega) (by omega) (by omega)) (by omega)]; rfl))
            | (refine ⟨⟨j + 2, by omega, by rfl, by rw [HV.out, HM.out, chkF_step_ok (chkAt_ok HX.out HY.out (by omega) (by omega) (by omega)), show xs.length - (j + 2) = m by have := HM.out; omega]⟩, by simp [intOf]; omega⟩)
      · have hkn : k = xs.length := by omega
        have hz : chkF xs xs.length 0 = 0 := by rw [HV.out, hkn, Nat.sub_self]; rfl
        have HZ := Lib.hid hz
        clear hz hkn
        go_wp2
        go_ret
        exact ⟨by rw [HZ.out]; rfl, rfl⟩

theorem checkr_any (A : Option Addr) (c : Nat) (xs : List Int) (w : World) (h : IntsAt w A xs) (hl : xs.length ≤ 9223372036854775807) :
    Calls Tryd.prog 15 #[.slice A xs.length c] w fun e w' => e = .returned (.int .i64 (chkS xs)) ∧ w = w' := by
  have H := Lib.hid h
  clear h
  by_cases h4 : 400 < xs.length
  · have hv : chkS xs = 9 := by simp [chkS, h4]
    rw [hv]
    clear hv
    go_enter Tryd.func15, Tryd.ntmps15
    go_wp2
    go_ret
    exact ⟨rfl, rfl⟩
  · have hv : chkS xs = chkF xs xs.length 0 := by simp [chkS, h4]
    rw [hv]
    clear hv
    go_enter Tryd.func15, Tryd.ntmps15
    go_wp2
    go_loop [10] (fun i => ∃ k : Nat, k ≤ xs.length ∧ i = .int .i64 k ∧ chkF xs xs.length 0 = chkF xs (xs.length - k) k) (fun i => xs.length - (intOf i).toNat)
    case atStart => exact ⟨0, by omega, rfl, rfl⟩
    case round =>
      obtain ⟨k, hk, rfl, hv⟩ := hrel
      have HV := Lib.hid hv
      clear hv
      by_cases hlt : k < xs.length
      · obtain ⟨b, off, rfl, hc⟩ := H.out.get hlt
        obtain ⟨m, hm⟩ : ∃ m, xs.length - k = m + 1 := ⟨xs.length - k - 1, by omega⟩
        have HM := Lib.hid hm
        clear hm
        rcases k with _ | j
        · generalize hx : xs.getD 0 0 = x at *
          have HX := Lib.hid hx
          clear hx
          have h0 : (0 : Int) < (xs.length : Int) := by omega
          rw [show ((0 : Nat) : Int) = 0 from rfl]
          rw [show off + 0 = off from rfl] at hc
          go_wp2
          all_goals first
            | (go_round
               case rel => exact ⟨1, by omega, rfl, by rw [HV.out, HM.out, chkF_step_ok (chkAt_zero_ok HX.out (by omega) (by omega)), show xs.length - 1 = m by have := HM.out; omega]⟩
               case measure => simp [intOf]; omega)
            | (go_ret
               refine ⟨?_, rfl⟩
               rw [HV.out, HM.out, chkF_bad (chkAt_bad HX.out (by omega)) (by omega)]
               rfl)
        · obtain ⟨b2, off2, e2, hc2⟩ := H.out.get (k := j) (by omega)
          cases e2
          generalize hx : xs.getD (j + 1) 0 = x at *
          generalize hy : xs.getD j 0 = y at *
          have HX := Lib.hid hx
          have HY := Lib.hid hy
          clear hx hy
          have h0 : (j : Int) + 1 < (xs.length : Int) := by omega
          have h1 : (0 : Int) ≤ (j : Int) + 1 := by omega
          have h2 : (0 : Int) < (j : Int) + 1 := by omega
          have e1 : ((j + 1 : Nat) : Int) = (j : Int) + 1 := by omega
          rw [e1]
          clear e1
          go_wp2
          all_goals first
            | (go_ret
               refine ⟨?_, rfl⟩
               first
                 | (rw [HV.out, HM.out, chkF_bad (chkAt_bad HX.out (by omega)) (by omega)]; rfl)
                 | (rw [HV.out, HM.out, chkF_bad (chkAt_order HX.out HY.out (by omega) (by omega) (by omega)) (by omega)]; rfl))
            | (refine ⟨⟨j + 2, by omega, by rfl, by rw [HV.out, HM.out, chkF_step_ok (chkAt_ok HX.out HY.out (by omega) (by omega) (by omega)), show xs.length - (j + 2) = m by have := HM.out; omega]⟩, by simp [intOf]; omega⟩)
      · have hkn : k = xs.length := by omega
        have hz : chkF xs xs.length 0 = 0 := by rw [HV.out, hkn, Nat.sub_self]; rfl
        have HZ := Lib.hid hz
        clear hz hkn
        go_wp2
        go_ret
        exact ⟨by rw [HZ.out]; rfl, rfl⟩

theorem frame_any (x : Int) (w : World) : Calls Tryd.prog 29 #[.int .i64 x] w fun e w' => e = .returned (.bool (fr x)) ∧ w = w' := by
  by_cases h1 : 0 ≤ x
  · by_cases h2 : x ≤ 5184000
    · rw [fr_mk h1 h2]
      go_enter Tryd.func29, Tryd.ntmps29
      go_wp2
      go_ret
      exact ⟨rfl, rfl⟩
    · rw [show fr x = false by simp [fr, h2]]
      go_enter Tryd.func29, Tryd.ntmps29
      go_wp2
      go_ret
      exact ⟨rfl, rfl⟩
  · rw [show fr x = false by simp [fr, h1]]
    go_enter Tryd.func29, Tryd.ntmps29
    go_wp2
    go_ret
    exact ⟨rfl, rfl⟩

theorem framer_any (x : Int) (w : World) : Calls Tryd.prog 31 #[.int .i64 x] w fun e w' => e = .returned (.bool (fr x)) ∧ w = w' := by
  by_cases h1 : 0 ≤ x
  · by_cases h2 : x ≤ 5184000
    · rw [fr_mk h1 h2]
      go_enter Tryd.func31, Tryd.ntmps31
      go_wp2
      go_ret
      exact ⟨rfl, rfl⟩
    · rw [show fr x = false by simp [fr, h2]]
      go_enter Tryd.func31, Tryd.ntmps31
      go_wp2
      go_ret
      exact ⟨rfl, rfl⟩
  · rw [show fr x = false by simp [fr, h1]]
    go_enter Tryd.func31, Tryd.ntmps31
    go_wp2
    go_ret
    exact ⟨rfl, rfl⟩

theorem size_any (x : Int) (w : World) (h1 : -100000000 ≤ x) (h2 : x ≤ 100000000) : Calls Tryd.prog 30 #[.int .i64 x] w fun e w' => e = .returned (.int .i64 (sz x)) ∧ w = w' := by
  by_cases hx : x < 0
  · rw [sz_neg hx]
    go_enter Tryd.func30, Tryd.ntmps30
    go_wp2
    go_ret
    exact ⟨rfl, rfl⟩
  · rw [sz_pos hx]
    go_enter Tryd.func30, Tryd.ntmps30
    go_wp2
    all_goals go_ret
    all_goals exact ⟨by first | rfl | (rw [show x = 0 by omega]; rfl) | (rw [show x = -x by omega]; rfl), rfl⟩

theorem sizer_any (x : Int) (w : World) (h1 : -100000000 ≤ x) (h2 : x ≤ 100000000) : Calls Tryd.prog 32 #[.int .i64 x] w fun e w' => e = .returned (.int .i64 (sz x)) ∧ w = w' := by
  by_cases hx : x < 0
  · rw [sz_neg hx]
    go_enter Tryd.func32, Tryd.ntmps32
    go_wp2
    go_ret
    exact ⟨rfl, rfl⟩
  · rw [sz_pos hx]
    go_enter Tryd.func32, Tryd.ntmps32
    go_wp2
    all_goals go_ret
    all_goals exact ⟨by first | rfl | (rw [show x = 0 by omega]; rfl) | (rw [show x = -x by omega]; rfl), rfl⟩

theorem near_bad (A : Option Addr) (c : Nat) (xs : List Int) (f : Int) (w : World) (h : IntsAt w A xs) (hl : xs.length ≤ 9223372036854775807) (hb : (chkS xs == 0) = false) :
    Calls Tryd.prog 12 #[.slice A xs.length c, .int .i64 f] w fun e w' => e = .returned (.tuple #[.int .i64 0, .bool false]) ∧ w = w' := by
  have H := Lib.hid h
  clear h
  have hb' : (chkS xs != 0) = true := by simpa using hb
  go_enter Tryd.func12, Tryd.ntmps12
  go_wp2_with fail
  refine (check_any A c xs _ H.out hl).mono ?_
  rintro e w' ⟨rfl, rfl⟩
  go_wp2_with fail
  go_ret2
  exact ⟨rfl, rfl⟩
theorem near_no (A : Option Addr) (c : Nat) (xs : List Int) (f : Int) (w : World) (h : IntsAt w A xs) (hl : xs.length ≤ 9223372036854775807) (h0 : chkS xs = 0) (hb : xs.length = 0 ∨ fr f = false) :
    Calls Tryd.prog 12 #[.slice A xs.length c, .int .i64 f] w fun e w' => e = .returned (.tuple #[.int .i64 0, .bool false]) ∧ w = w' := by
  have H := Lib.hid h
  have H0 := Lib.hid h0
  have HB := Lib.hid hb
  clear h h0 hb
  by_cases he : xs.length = 0
  · go_enter Tryd.func12, Tryd.ntmps12
    have HE := Lib.hid he
    have heb := len_beq_true he
    clear he
    go_wp2_with fail
    refine (check_any A c xs _ H.out hl).mono ?_
    rintro e w' ⟨rfl, rfl⟩
    rw [H0.out]
    go_wp2_with fail
    go_ret2
    exact ⟨rfl, rfl⟩
  · have hf : fr f = false := by rcases HB.out with h | h; exact absurd h he; exact h
    have heb := len_beq_false (show 0 < xs.length by omega)
    go_enter Tryd.func12, Tryd.ntmps12
    go_wp2_with fail
    refine (check_any A c xs _ H.out hl).mono ?_
    rintro e w' ⟨rfl, rfl⟩
    rw [H0.out]
    go_wp2_with fail
    refine (frame_any f _).mono ?_
    rintro e w' ⟨rfl, rfl⟩
    rw [hf]
    go_wp2_with fail
    go_ret2
    exact ⟨rfl, rfl⟩
theorem near_yes (A : Option Addr) (c : Nat) (xs : List Int) (f : Int) (w : World) (h : IntsAt w A xs) (hl : xs.length ≤ 9223372036854775807) (h0 : chkS xs = 0) (he : 0 < xs.length) (hf : fr f = true) :
    Calls Tryd.prog 12 #[.slice A xs.length c, .int .i64 f] w fun e w' => e = .returned (.tuple #[.int .i64 (nearG f (xs.getD 0 0) xs), .bool true]) ∧ w = w' := by
  have H := Lib.hid h
  have H0 := Lib.hid h0
  have heb := len_beq_false he
  have hfb := fr_of hf
  have HBD := Lib.hid (chkS_bd h0)
  clear h h0
  obtain ⟨b, off, rfl, hc⟩ := H.out.get he
  have hbd0 := HBD.out 0 he
  obtain ⟨g0, hg0⟩ : ∃ g0, g0 = xs.getD 0 0 := ⟨_, rfl⟩
  rw [← hg0] at hc hbd0 ⊢
  have HG0 := Lib.hid hg0
  clear hg0
  have hlp : (0 : Int) < (xs.length : Int) := by omega
  rw [show off + 0 = off from rfl] at hc
  go_enter Tryd.func12, Tryd.ntmps12
  go_wp2_with fail
  refine (check_any _ c xs _ H.out hl).mono ?_
  rintro e w' ⟨rfl, rfl⟩
  rw [H0.out]
  go_wp2_with fail
  refine (frame_any f _).mono ?_
  rintro e w' ⟨rfl, rfl⟩
  rw [hf]
  go_wp2_with fail
  go_loop [27, 6] (fun i bb => ∃ (k : Nat) (best : Int), k ≤ xs.length ∧ i = .int .i64 k ∧ bb = .int .i64 best ∧ 1 ≤ best ∧ best ≤ 5184000 ∧ nearG f g0 xs = nearG f best (xs.drop k)) (fun i _ => xs.length - (intOf i).toNat)
  case atStart => exact ⟨0, g0, by omega, rfl, rfl, hbd0.1, hbd0.2, rfl⟩
  case round =>
    obtain ⟨k, best, hk, rfl, rfl, hb1, hb2, hv⟩ := hrel
    have HV := Lib.hid hv
    clear hv
    by_cases hlt : k < xs.length
    · obtain ⟨b2, off2, e2, hc2⟩ := H.out.get hlt
      cases e2
      have hbk := HBD.out k hlt
      have HD := Lib.hid (drop_cons hlt)
      generalize xs.getD k 0 = x at *
      go_wp2_with fail
      refine (size_any (x - f) _ (by omega) (by omega)).mono ?_
      rintro e w' ⟨rfl, rfl⟩
      go_wp2_with fail
      refine (size_any (best - f) _ (by omega) (by omega)).mono ?_
      rintro e w' ⟨rfl, rfl⟩
      by_cases hcmp : sz (x - f) < sz (best - f)
      · go_wp2_with fail
        exact ⟨⟨k + 1, x, by omega, by go_num, rfl, hbk.1, hbk.2, by rw [HV.out, HD.out, nearG, if_pos hcmp]⟩, by simp [intOf]; omega⟩
      · go_wp2_with fail
        exact ⟨⟨k + 1, best, by omega, by go_num, rfl, hb1, hb2, by rw [HV.out, HD.out, nearG, if_neg (by omega)]⟩, by simp [intOf]; omega⟩
    · go_wp2_with fail
      go_ret2
      exact ⟨by rw [HV.out, List.drop_eq_nil_of_le (by omega)]; rfl, rfl⟩

theorem nearr_bad (A : Option Addr) (c : Nat) (xs : List Int) (f : Int) (w : World) (h : IntsAt w A xs) (hl : xs.length ≤ 9223372036854775807) (hb : (chkS xs == 0) = false) :
    Calls Tryd.prog 13 #[.slice A xs.length c, .int .i64 f] w fun e w' => e = .returned (.tuple #[.int .i64 0, .bool false]) ∧ w = w' := by
  have H := Lib.hid h
  clear h
  have hb' : (chkS xs != 0) = true := by simpa using hb
  go_enter Tryd.func13, Tryd.ntmps13
  go_wp2_with fail
  refine (checkr_any A c xs _ H.out hl).mono ?_
  rintro e w' ⟨rfl, rfl⟩
  go_wp2_with fail
  go_ret2
  exact ⟨rfl, rfl⟩
theorem nearr_no (A : Option Addr) (c : Nat) (xs : List Int) (f : Int) (w : World) (h : IntsAt w A xs) (hl : xs.length ≤ 9223372036854775807) (h0 : chkS xs = 0) (hb : xs.length = 0 ∨ fr f = false) :
    Calls Tryd.prog 13 #[.slice A xs.length c, .int .i64 f] w fun e w' => e = .returned (.tuple #[.int .i64 0, .bool false]) ∧ w = w' := by
  have H := Lib.hid h
  have H0 := Lib.hid h0
  have HB := Lib.hid hb
  clear h h0 hb
  by_cases he : xs.length = 0
  · go_enter Tryd.func13, Tryd.ntmps13
    have HE := Lib.hid he
    have heb := len_beq_true he
    clear he
    go_wp2_with fail
    refine (checkr_any A c xs _ H.out hl).mono ?_
    rintro e w' ⟨rfl, rfl⟩
    rw [H0.out]
    go_wp2_with fail
    go_ret2
    exact ⟨rfl, rfl⟩
  · have hf : fr f = false := by rcases HB.out with h | h; exact absurd h he; exact h
    have heb := len_beq_false (show 0 < xs.length by omega)
    go_enter Tryd.func13, Tryd.ntmps13
    go_wp2_with fail
    refine (checkr_any A c xs _ H.out hl).mono ?_
    rintro e w' ⟨rfl, rfl⟩
    rw [H0.out]
    go_wp2_with fail
    refine (framer_any f _).mono ?_
    rintro e w' ⟨rfl, rfl⟩
    rw [hf]
    go_wp2_with fail
    go_ret2
    exact ⟨rfl, rfl⟩
theorem nearr_yes (A : Option Addr) (c : Nat) (xs : List Int) (f : Int) (w : World) (h : IntsAt w A xs) (hl : xs.length ≤ 9223372036854775807) (h0 : chkS xs = 0) (he : 0 < xs.length) (hf : fr f = true) :
    Calls Tryd.prog 13 #[.slice A xs.length c, .int .i64 f] w fun e w' => e = .returned (.tuple #[.int .i64 (nearG f (xs.getD 0 0) xs), .bool true]) ∧ w = w' := by
  have H := Lib.hid h
  have H0 := Lib.hid h0
  have heb := len_beq_false he
  have hfb := fr_of hf
  have HBD := Lib.hid (chkS_bd h0)
  clear h h0
  obtain ⟨b, off, rfl, hc⟩ := H.out.get he
  have hbd0 := HBD.out 0 he
  obtain ⟨g0, hg0⟩ : ∃ g0, g0 = xs.getD 0 0 := ⟨_, rfl⟩
  rw [← hg0] at hc hbd0 ⊢
  have HG0 := Lib.hid hg0
  clear hg0
  have hlp : (0 : Int) < (xs.length : Int) := by omega
  rw [show off + 0 = off from rfl] at hc
  go_enter Tryd.func13, Tryd.ntmps13
  go_wp2_with fail
  refine (checkr_any _ c xs _ H.out hl).mono ?_
  rintro e w' ⟨rfl, rfl⟩
  rw [H0.out]
  go_wp2_with fail
  refine (framer_any f _).mono ?_
  rintro e w' ⟨rfl, rfl⟩
  rw [hf]
  go_wp2_with fail
  go_loop [27, 6] (fun i bb => ∃ (k : Nat) (best : Int), k ≤ xs.length ∧ i = .int .i64 k ∧ bb = .int .i64 best ∧ 1 ≤ best ∧ best ≤ 5184000 ∧ nearG f g0 xs = nearG f best (xs.drop k)) (fun i _ => xs.length - (intOf i).toNat)
  case atStart => exact ⟨0, g0, by omega, rfl, rfl, hbd0.1, hbd0.2, rfl⟩
  case round =>
    obtain ⟨k, best, hk, rfl, rfl, hb1, hb2, hv⟩ := hrel
    have HV := Lib.hid hv
    clear hv
    by_cases hlt : k < xs.length
    · obtain ⟨b2, off2, e2, hc2⟩ := H.out.get hlt
      cases e2
      have hbk := HBD.out k hlt
      have HD := Lib.hid (drop_cons hlt)
      generalize xs.getD k 0 = x at *
      go_wp2_with fail
      refine (sizer_any (x - f) _ (by omega) (by omega)).mono ?_
      rintro e w' ⟨rfl, rfl⟩
      go_wp2_with fail
      refine (sizer_any (best - f) _ (by omega) (by omega)).mono ?_
      rintro e w' ⟨rfl, rfl⟩
      by_cases hcmp : sz (x - f) < sz (best - f)
      · go_wp2_with fail
        exact ⟨⟨k + 1, x, by omega, by go_num, rfl, hbk.1, hbk.2, by rw [HV.out, HD.out, nearG, if_pos hcmp]⟩, by simp [intOf]; omega⟩
      · go_wp2_with fail
        exact ⟨⟨k + 1, best, by omega, by go_num, rfl, hb1, hb2, by rw [HV.out, HD.out, nearG, if_neg (by omega)]⟩, by simp [intOf]; omega⟩
    · go_wp2_with fail
      go_ret2
      exact ⟨by rw [HV.out, List.drop_eq_nil_of_le (by omega)]; rfl, rfl⟩

end Go.Proofs.YtnnhbnkelgmaaaaDoor
