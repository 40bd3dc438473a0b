/-
  The contracts of Snap, in the program and in the reference. Their conditions are their hypotheses.
-/
import Derived.Test.YtnnhbnkelgmaaaaDoorC2
import Derived.LoopTactic
import Derived.OwnWalk
namespace Go.Proofs.YtnnhbnkelgmaaaaDoor
open Go.RowKit
set_option linter.unusedVariables false
set_option linter.unusedSimpArgs false
theorem info_parts {p : TypeId} {v : Value} {s b : Nat} (h : (Tryd.prog.info? p).map (fun i => (i.zero, i.size, i.bytes)) = some (some v, s, b)) :
    ∃ i, Tryd.prog.info? p = some i ∧ i.zero = some v ∧ i.size = s ∧ i.bytes = b := by
  cases hi : Tryd.prog.info? p with
  | none => rw [hi] at h; cases h
  | some i => rw [hi] at h; simp at h; exact ⟨i, rfl, h.1, h.2.1, h.2.2⟩
theorem stepS_nofr {f b a : Int} {xs : List Int} {st : Int × Bool} {p : Int} (h : fr p = false) : stepS f b a xs st p = st := by simp [stepS, h]
theorem stepS_bad {f b a : Int} {xs : List Int} {st : Int × Bool} {p c : Int} (h : tooC p b a xs = some c) : stepS f b a xs st p = st := by simp [stepS, h]
theorem stepS_take {f b a : Int} {xs : List Int} {st : Int × Bool} {p : Int} (h1 : fr p = true) (h2 : tooC p b a xs = none) (h3 : better f p st.1 st.2 = true) : stepS f b a xs st p = (p, true) := by simp [stepS, h1, h2, h3]
theorem stepS_keep {f b a : Int} {xs : List Int} {st : Int × Bool} {p : Int} (h3 : better f p st.1 st.2 = false) : stepS f b a xs st p = st := by simp [stepS, h3]
theorem places_take {f b a : Int} {xs : List Int} {k : Nat} (hk : k < xs.length) : places f b a (xs.take (k + 1)) = places f b a (xs.take k) ++ [xs.getD k 0 - b, xs.getD k 0, xs.getD k 0 + a] := by
  unfold places
  rw [List.take_succ_eq_append_getElem hk, List.flatMap_append]
  simp [hk]
theorem places_len {f b a : Int} {xs : List Int} : (places f b a xs).length = 1 + 3 * xs.length := by
  unfold places
  induction xs with
  | nil => rfl
  | cons x xs ih => simp [List.flatMap_cons] at ih ⊢; omega
theorem places_bd {f b a : Int} {xs : List Int} (hx : ∀ j, j < xs.length → 1 ≤ xs.getD j 0 ∧ xs.getD j 0 ≤ 5184000) (hf : 0 ≤ f ∧ f ≤ 5184000) (hb : 0 ≤ b ∧ b ≤ 5184000) (ha : 0 ≤ a ∧ a ≤ 5184000) :
    ∀ p ∈ places f b a xs, -5184000 ≤ p ∧ p ≤ 10368000 := by
  intro p hp
  unfold places at hp
  rcases List.mem_cons.1 hp with rfl | hp
  · omega
  · obtain ⟨c, hc, hpc⟩ := List.mem_flatMap.1 hp
    obtain ⟨j, hj, rfl⟩ := List.getElem_of_mem hc
    have := hx j hj
    simp [hj] at this
    simp at hpc
    omega
theorem foldS_drop {f b a : Int} {xs L : List Int} {k : Nat} (hk : k < L.length) (st : Int × Bool) : (L.drop k).foldl (stepS f b a xs) st = (L.drop (k + 1)).foldl (stepS f b a xs) (stepS f b a xs st (L.getD k 0)) := by
  rw [drop_cons hk]; rfl

theorem snap_no (A : Option Addr) (c : Nat) (xs : List Int) (f b a : Int) (w : World) (h : IntsAt w A xs) (hl : xs.length ≤ 9223372036854775807) (hu : usb xs f b a = false) :
    Calls Tryd.prog 18 #[.slice A xs.length c, .int .i64 f, .int .i64 b, .int .i64 a] w fun e w' => e = .returned (.tuple #[.int .i64 0, .bool false]) ∧ w = w' := by
  have H := Lib.hid h
  have HU := Lib.hid hu
  clear h hu
  go_enter Tryd.func18, Tryd.ntmps18
  go_wp2_with fail
  refine (usable_any A c xs f b a _ H.out hl).mono ?_
  rintro e w' ⟨rfl, rfl⟩
  rw [HU.out]
  go_wp2_with fail
  go_ret2
  exact ⟨rfl, rfl⟩
theorem snap_yes (A : Option Addr) (c : Nat) (xs : List Int) (f b a : Int) (w : World) (h : IntsAt w A xs) (hl : xs.length ≤ 9223372036854775807) (hu : usb xs f b a = true) :
    Calls Tryd.prog 18 #[.slice A xs.length c, .int .i64 f, .int .i64 b, .int .i64 a] w fun e w' => e = .returned (.tuple #[.int .i64 (snapV f b a xs).1, .bool (snapV f b a xs).2]) ∧ Below w.heap.size w w' := by
  have H := Lib.hid h
  have HU := Lib.hid hu
  obtain ⟨h0, hf, hb, ha⟩ := usb_of hu
  have H0 := Lib.hid h0
  have hlen := (chkS_zero h0).1
  have HBD := Lib.hid (chkS_bd h0)
  have HFF := Lib.hid hf
  have HFB := Lib.hid hb
  have HFA := Lib.hid ha
  have gf := fr_of hf
  have gb := fr_of hb
  have ga := fr_of ha
  obtain ⟨i0, hi, hz0, hz1, hz2⟩ := info_parts i2
  have HI0 := Lib.hid (And.intro hi (And.intro hz0 (And.intro hz1 hz2)))
  clear h h0 hu hf hb ha hi hz0 hz1 hz2
  obtain ⟨V, hV⟩ : ∃ V, V = snapV f b a xs := ⟨_, rfl⟩
  rw [← hV]
  have HV := Lib.hid hV
  clear hV
  go_enter Tryd.func18, Tryd.ntmps18
  go_wp2_with fail
  refine (usable_any A c xs f b a _ H.out hl).mono ?_
  rintro e w' ⟨rfl, rfl⟩
  rw [HU.out]
  go_wp2_with fail
  obtain ⟨B, hB⟩ : ∃ B, B = w.heap.size := ⟨_, rfl⟩
  rw [← hB]
  have HB := Lib.hid hB
  generalize hw1 : w.alloc _ = w1
  have hb1 : Below B w w1 := by subst hw1; rw [hB]; exact (Below.refl _ _).alloc (Nat.le_refl _) _
  have ho1 : w1.ownsRow B 2 1 (.slice (some ⟨B, 0, none⟩) 1 1) 1 [Value.int .i64 f] := by
    subst hw1
    exact ⟨by simp, .inr ⟨B, 1, #[.int .i64 f], rfl, Nat.le_refl _, by rw [hB]; exact heap_alloc_new w _, Nat.le_refl _, by decide, by simp, by simp⟩⟩
  have hs1 : B ≤ w1.heap.size := by subst hw1; simp [hB]
  clear hw1 hB
  have HO1 := Lib.hid ho1
  have HB1 := Lib.hid hb1
  clear ho1 hb1
  go_loopw [29, 10] (fun i v wr => ∃ k : Nat, k ≤ xs.length ∧ i = .int .i64 k ∧ Hid (wr.ownsRow B 2 1 v (places f b a (xs.take k)).length ((places f b a (xs.take k)).map (Value.int .i64))) ∧ Hid (Below B w wr) ∧ B ≤ wr.heap.size) (fun i _ _ => xs.length - (intOf i).toNat)
  case atStart => exact ⟨0, by omega, rfl, Lib.hid HO1.out, Lib.hid HB1.out, hs1⟩
  case round =>
    obtain ⟨k, hk, rfl, hown, hbel, hsz⟩ := hrel
    by_cases hlt : k < xs.length
    · obtain ⟨b2, off, rfl, hc⟩ := (H.out.below hbel.out (by rw [HB.out]; exact Nat.le_refl _)).get hlt
      have hbk := HBD.out k hlt
      have HPT := Lib.hid (places_take (f := f) (b := b) (a := a) hlt)
      have hpl := places_len (f := f) (b := b) (a := a) (xs := xs.take k)
      rw [List.length_take, Nat.min_eq_left hk] at hpl
      generalize xs.getD k 0 = x at *
      generalize hM : places f b a (xs.take k) = M at *
      clear hM
      go_wp2_with (at_builtin; refine wpList_append_own _ rfl _ _ 22 rfl B 2 i0 (.int .i64 0) 1 8 Tryd.underlying22 HI0.out.1 HI0.out.2.1 HI0.out.2.2.1 HI0.out.2.2.2 rfl (by decide) _ M.length (M.map (Value.int .i64)) rfl (hown.out.alloc _) ⟨_, 0, none⟩ 3 3 [.int .i64 (x - b), .int .i64 x, .int .i64 (x + a)] rfl rfl ?c1 ?c2 ?c3 ?c4 ?c5 ?_)
      case c1 => exact CellsAt.all (by simp [CellsAt, go_sem])
      case c2 => simp [Value.oneCell']
      case c3 => simp only [maxLen]; omega
      case c4 => omega
      case c5 => simp; omega
      intro v2 w2 hown2 hgr _
      have hsz2 : B ≤ w2.heap.size := by have := hgr.size; simp at this; omega
      have hown3 := Lib.hid hown2
      have hbel2 := Lib.hid (((hbel.out).alloc hsz _).grown hgr (by simp; omega) (fun q hq => (hown.out.lt q hq).1))
      clear hown2 hgr hc
      go_wp2_with fail
      go_roundw
      case rel => exact ⟨k + 1, by omega, by go_num, by rw [HPT.out]; exact Lib.hid (by have := hown3.out; simpa [hpl] using this), Lib.hid hbel2.out, hsz2⟩
      case measure => simp [intOf]; omega
    · have hkn : k = xs.length := by omega
      subst hkn
      rw [List.take_length] at hown
      obtain ⟨A2, c2, rfl, hi2, _, _⟩ := ints_of_own hown.out
      have HI2 := Lib.hid hi2
      have HW := Lib.hid (H.out.below hbel.out (by rw [HB.out]; exact Nat.le_refl _))
      have hpl : (places f b a xs).length ≤ 1201 := by rw [places_len]; omega
      have HPB := Lib.hid (places_bd (f := f) (b := b) (a := a) HBD.out gf gb ga)
      have HVL := Lib.hid (show V = (places f b a xs).foldl (stepS f b a xs) (0, false) from HV.out)
      clear hi2 hown
      generalize places f b a xs = L at *
      go_wp2_with fail
      go_loop [46, 13, 14] (fun i vb vo => ∃ (k : Nat) (best : Int) (ok : Bool), k ≤ L.length ∧ i = .int .i64 k ∧ vb = .int .i64 best ∧ vo = .bool ok ∧ 0 ≤ best ∧ best ≤ 5184000 ∧ Hid (V = (L.drop k).foldl (stepS f b a xs) (best, ok))) (fun i _ _ => L.length - (intOf i).toNat)
      case atStart => exact ⟨0, 0, false, by omega, rfl, rfl, rfl, by omega, by omega, Lib.hid HVL.out⟩
      case round =>
        obtain ⟨k, best, ok, hk2, rfl, rfl, rfl, hb1, hb2, hv⟩ := hrel
        by_cases hlt2 : k < L.length
        · obtain ⟨b3, off3, rfl, hc3⟩ := HI2.out.get hlt2
          have hxb := HPB.out (L.getD k 0) (by simp [hlt2])
          have HD := Lib.hid (foldS_drop (f := f) (b := b) (a := a) (xs := xs) hlt2 (best, ok))
          generalize L.getD k 0 = x at *
          cases hxf : fr x with
          | false =>
            have hv2 := Lib.hid (hv.out.trans (by rw [HD.out, stepS_nofr hxf]))
            clear hv HD
            go_wp2_with fail
            refine (frame_any x _).mono ?_
            rintro e w' ⟨rfl, rfl⟩
            rw [hxf]
            go_wp2_with fail
            go_round
            case rel => exact ⟨k + 1, best, ok, by omega, by go_num, rfl, rfl, hb1, hb2, Lib.hid hv2.out⟩
            case measure => simp [intOf]; omega
          | true =>
            have HXF := Lib.hid hxf
            have gx := fr_of hxf
            clear hxf
            cases htc : tooC x b a xs with
            | some cc =>
              have hv2 := Lib.hid (hv.out.trans (by rw [HD.out, stepS_bad htc]))
              have HTC := Lib.hid (tcV_some htc)
              clear hv HD htc
              go_wp2_with fail
              refine (frame_any x _).mono ?_
              rintro e w' ⟨rfl, rfl⟩
              rw [HXF.out]
              go_wp2_with fail
              refine (tooClose_any A c xs x b a _ HW.out hl H0.out HXF.out HFB.out HFA.out).mono ?_
              rintro e w' ⟨rfl, rfl⟩
              rw [HTC.out]
              go_wp2_with fail
              go_round
              case rel => exact ⟨k + 1, best, ok, by omega, by go_num, rfl, rfl, hb1, hb2, Lib.hid hv2.out⟩
              case measure => simp [intOf]; omega
            | none =>
              have HTC := Lib.hid (tcV_none htc)
              have HTN := Lib.hid htc
              clear htc
              cases ok with
              | false =>
                have hv2 := Lib.hid (hv.out.trans (by rw [HD.out, stepS_take HXF.out HTN.out (by simp [better])]))
                clear hv HD
                go_wp2_with fail
                refine (frame_any x _).mono ?_
                rintro e w' ⟨rfl, rfl⟩
                rw [HXF.out]
                go_wp2_with fail
                refine (tooClose_any A c xs x b a _ HW.out hl H0.out HXF.out HFB.out HFA.out).mono ?_
                rintro e w' ⟨rfl, rfl⟩
                rw [HTC.out]
                go_wp2_with fail
                go_round
                case rel => exact ⟨k + 1, x, true, by omega, by go_num, rfl, rfl, gx.1, gx.2, Lib.hid hv2.out⟩
                case measure => simp [intOf]; omega
              | true =>
                go_wp2_with fail
                refine (frame_any x _).mono ?_
                rintro e w' ⟨rfl, rfl⟩
                rw [HXF.out]
                go_wp2_with fail
                refine (tooClose_any A c xs x b a _ HW.out hl H0.out HXF.out HFB.out HFA.out).mono ?_
                rintro e w' ⟨rfl, rfl⟩
                rw [HTC.out]
                go_wp2_with fail
                refine (size_any (x - f) _ (by omega) (by omega)).mono ?_
                rintro e w' ⟨rfl, rfl⟩
                go_wp2_with fail
                refine (size_any (best - f) _ (by omega) (by omega)).mono ?_
                rintro e w' ⟨rfl, rfl⟩
                have sb1 := sz_bd (n := x - f) (by omega) (by omega)
                have sb2 := sz_bd (n := best - f) (by omega) (by omega)
                by_cases hcmp : sz (x - f) < sz (best - f)
                · have hv2 := Lib.hid (hv.out.trans (by rw [HD.out, stepS_take HXF.out HTN.out (by simp [better, hcmp])]))
                  clear hv HD
                  go_wp2_with fail
                  go_round
                  case rel => exact ⟨k + 1, x, true, by omega, by go_num, rfl, rfl, gx.1, gx.2, Lib.hid hv2.out⟩
                  case measure => simp [intOf]; omega
                · have hcmp' : sz (best - f) ≤ sz (x - f) := by omega
                  clear hcmp
                  go_wp2_with fail
                  refine (size_any (x - f) _ (by omega) (by omega)).mono ?_
                  rintro e w' ⟨rfl, rfl⟩
                  go_wp2_with fail
                  refine (size_any (best - f) _ (by omega) (by omega)).mono ?_
                  rintro e w' ⟨rfl, rfl⟩
                  by_cases heq : sz (x - f) = sz (best - f)
                  · have heb : (sz (x - f) == sz (best - f)) = true := by rw [heq]; exact beq_self_eq_true _
                    by_cases hxl : x < best
                    · have hv2 := Lib.hid (hv.out.trans (by rw [HD.out, stepS_take HXF.out HTN.out (by simp [better, heq, hxl])]))
                      clear hv HD
                      go_wp2_with fail
                      go_round
                      case rel => exact ⟨k + 1, x, true, by omega, by go_num, rfl, rfl, gx.1, gx.2, Lib.hid hv2.out⟩
                      case measure => simp [intOf]; omega
                    · have hxl' : best ≤ x := by omega
                      have hv2 := Lib.hid (hv.out.trans (by rw [HD.out, stepS_keep (by simp [better, heq] <;> omega)]))
                      clear hv HD hxl
                      go_wp2_with fail
                      go_round
                      case rel => exact ⟨k + 1, best, true, by omega, by go_num, rfl, rfl, hb1, hb2, Lib.hid hv2.out⟩
                      case measure => simp [intOf]; omega
                  · have heb : (sz (x - f) == sz (best - f)) = false := by rw [beq_eq_false_iff_ne]; exact heq
                    have hv2 := Lib.hid (hv.out.trans (by rw [HD.out, stepS_keep (by simp [better, heq] <;> omega)]))
                    clear hv HD heq
                    go_wp2_with fail
                    go_round
                    case rel => exact ⟨k + 1, best, true, by omega, by go_num, rfl, rfl, hb1, hb2, Lib.hid hv2.out⟩
                    case measure => simp [intOf]; omega
        · have hv2 := Lib.hid (hv.out.trans (by rw [List.drop_eq_nil_of_le (by omega)] <;> rfl))
          clear hv
          go_wp2_with fail
          go_ret2
          exact ⟨by rw [hv2.out]; rfl, by rw [← HB.out]; exact hbel.out⟩

theorem snapr_no (A : Option Addr) (c : Nat) (xs : List Int) (f b a : Int) (w : World) (h : IntsAt w A xs) (hl : xs.length ≤ 9223372036854775807) (hu : usb xs f b a = false) :
    Calls Tryd.prog 19 #[.slice A xs.length c, .int .i64 f, .int .i64 b, .int .i64 a] w fun e w' => e = .returned (.tuple #[.int .i64 0, .bool false]) ∧ w = w' := by
  have H := Lib.hid h
  have HU := Lib.hid hu
  clear h hu
  cases h0 : (chkS xs == 0) with
  | false =>
    have h0' : (chkS xs != 0) = true := by simpa using h0
    go_enter Tryd.func19, Tryd.ntmps19
    go_wp2_with fail
    refine (checkr_any A c xs _ H.out hl).mono ?_
    rintro e w' ⟨rfl, rfl⟩
    go_wp2_with fail
    go_ret2
    exact ⟨rfl, rfl⟩
  | true =>
    have h00 : chkS xs = 0 := by simpa using h0
    have H0 := Lib.hid h00
    clear h0 h00
    cases hf : fr f with
    | false =>
      go_enter Tryd.func19, Tryd.ntmps19
      go_wp2_with fail
      refine (checkr_any A c xs _ H.out hl).mono ?_
      rintro e w' ⟨rfl, rfl⟩
      rw [H0.out]
      go_wp2_with fail
      refine (framer_any f _).mono ?_
      rintro e w' ⟨rfl, rfl⟩
      rw [hf]
      go_wp2_with fail
      go_ret2
      exact ⟨rfl, rfl⟩
    | true =>
      cases hb : fr b with
      | false =>
        go_enter Tryd.func19, Tryd.ntmps19
        go_wp2_with fail
        refine (checkr_any A c xs _ H.out hl).mono ?_
        rintro e w' ⟨rfl, rfl⟩
        rw [H0.out]
        go_wp2_with fail
        refine (framer_any f _).mono ?_
        rintro e w' ⟨rfl, rfl⟩
        rw [hf]
        go_wp2_with fail
        refine (framer_any b _).mono ?_
        rintro e w' ⟨rfl, rfl⟩
        rw [hb]
        go_wp2_with fail
        go_ret2
        exact ⟨rfl, rfl⟩
      | true =>
        have ha : fr a = false := by have := HU.out; simpa [usb, H0.out, hf, hb] using this
        go_enter Tryd.func19, Tryd.ntmps19
        go_wp2_with fail
        refine (checkr_any A c xs _ H.out hl).mono ?_
        rintro e w' ⟨rfl, rfl⟩
        rw [H0.out]
        go_wp2_with fail
        refine (framer_any f _).mono ?_
        rintro e w' ⟨rfl, rfl⟩
        rw [hf]
        go_wp2_with fail
        refine (framer_any b _).mono ?_
        rintro e w' ⟨rfl, rfl⟩
        rw [hb]
        go_wp2_with fail
        refine (framer_any a _).mono ?_
        rintro e w' ⟨rfl, rfl⟩
        rw [ha]
        go_wp2_with fail
        go_ret2
        exact ⟨rfl, rfl⟩

theorem snapr_yes (A : Option Addr) (c : Nat) (xs : List Int) (f b a : Int) (w : World) (h : IntsAt w A xs) (hl : xs.length ≤ 9223372036854775807) (hu : usb xs f b a = true) :
    Calls Tryd.prog 19 #[.slice A xs.length c, .int .i64 f, .int .i64 b, .int .i64 a] w fun e w' => e = .returned (.tuple #[.int .i64 (snapV f b a xs).1, .bool (snapV f b a xs).2]) ∧ Below w.heap.size w w' := by
  have H := Lib.hid h
  have HU := Lib.hid hu
  obtain ⟨h0, hf, hb, ha⟩ := usb_of hu
  have H0 := Lib.hid h0
  have hlen := (chkS_zero h0).1
  have HBD := Lib.hid (chkS_bd h0)
  have HFF := Lib.hid hf
  have HFB := Lib.hid hb
  have HFA := Lib.hid ha
  have gf := fr_of hf
  have gb := fr_of hb
  have ga := fr_of ha
  obtain ⟨i0, hi, hz0, hz1, hz2⟩ := info_parts i2
  have HI0 := Lib.hid (And.intro hi (And.intro hz0 (And.intro hz1 hz2)))
  clear h h0 hu hf hb ha hi hz0 hz1 hz2
  obtain ⟨V, hV⟩ : ∃ V, V = snapV f b a xs := ⟨_, rfl⟩
  rw [← hV]
  have HV := Lib.hid hV
  clear hV
  go_enter Tryd.func19, Tryd.ntmps19
  go_wp2_with fail
  refine (checkr_any A c xs _ H.out hl).mono ?_
  rintro e w' ⟨rfl, rfl⟩
  rw [H0.out]
  go_wp2_with fail
  refine (framer_any f _).mono ?_
  rintro e w' ⟨rfl, rfl⟩
  rw [HFF.out]
  go_wp2_with fail
  refine (framer_any b _).mono ?_
  rintro e w' ⟨rfl, rfl⟩
  rw [HFB.out]
  go_wp2_with fail
  refine (framer_any a _).mono ?_
  rintro e w' ⟨rfl, rfl⟩
  rw [HFA.out]
  go_wp2_with fail
  obtain ⟨B, hB⟩ : ∃ B, B = w.heap.size := ⟨_, rfl⟩
  rw [← hB]
  have HB := Lib.hid hB
  generalize hw1 : w.alloc _ = w1
  have hb1 : Below B w w1 := by subst hw1; rw [hB]; exact (Below.refl _ _).alloc (Nat.le_refl _) _
  have ho1 : w1.ownsRow B 2 1 (.slice (some ⟨B, 0, none⟩) 1 1) 1 [Value.int .i64 f] := by
    subst hw1
    exact ⟨by simp, .inr ⟨B, 1, #[.int .i64 f], rfl, Nat.le_refl _, by rw [hB]; exact heap_alloc_new w _, Nat.le_refl _, by decide, by simp, by simp⟩⟩
  have hs1 : B ≤ w1.heap.size := by subst hw1; simp [hB]
  clear hw1 hB
  have HO1 := Lib.hid ho1
  have HB1 := Lib.hid hb1
  clear ho1 hb1
  go_loopw [41, 10] (fun i v wr => ∃ k : Nat, k ≤ xs.length ∧ i = .int .i64 k ∧ Hid (wr.ownsRow B 2 1 v (places f b a (xs.take k)).length ((places f b a (xs.take k)).map (Value.int .i64))) ∧ Hid (Below B w wr) ∧ B ≤ wr.heap.size) (fun i _ _ => xs.length - (intOf i).toNat)
  case atStart => exact ⟨0, by omega, rfl, Lib.hid HO1.out, Lib.hid HB1.out, hs1⟩
  case round =>
    obtain ⟨k, hk, rfl, hown, hbel, hsz⟩ := hrel
    by_cases hlt : k < xs.length
    · obtain ⟨b2, off, rfl, hc⟩ := (H.out.below hbel.out (by rw [HB.out]; exact Nat.le_refl _)).get hlt
      have hbk := HBD.out k hlt
      have HPT := Lib.hid (places_take (f := f) (b := b) (a := a) hlt)
      have hpl := places_len (f := f) (b := b) (a := a) (xs := xs.take k)
      rw [List.length_take, Nat.min_eq_left hk] at hpl
      generalize xs.getD k 0 = x at *
      generalize hM : places f b a (xs.take k) = M at *
      clear hM
      go_wp2_with (at_builtin; refine wpList_append_own _ rfl _ _ 22 rfl B 2 i0 (.int .i64 0) 1 8 Tryd.underlying22 HI0.out.1 HI0.out.2.1 HI0.out.2.2.1 HI0.out.2.2.2 rfl (by decide) _ M.length (M.map (Value.int .i64)) rfl (hown.out.alloc _) ⟨_, 0, none⟩ 3 3 [.int .i64 (x - b), .int .i64 x, .int .i64 (x + a)] rfl rfl ?c1 ?c2 ?c3 ?c4 ?c5 ?_)
      case c1 => exact CellsAt.all (by simp [CellsAt, go_sem])
      case c2 => simp [Value.oneCell']
      case c3 => simp only [maxLen]; omega
      case c4 => omega
      case c5 => simp; omega
      intro v2 w2 hown2 hgr _
      have hsz2 : B ≤ w2.heap.size := by have := hgr.size; simp at this; omega
      have hown3 := Lib.hid hown2
      have hbel2 := Lib.hid (((hbel.out).alloc hsz _).grown hgr (by simp; omega) (fun q hq => (hown.out.lt q hq).1))
      clear hown2 hgr hc
      go_wp2_with fail
      go_roundw
      case rel => exact ⟨k + 1, by omega, by go_num, by rw [HPT.out]; exact Lib.hid (by have := hown3.out; simpa [hpl] using this), Lib.hid hbel2.out, hsz2⟩
      case measure => simp [intOf]; omega
    · have hkn : k = xs.length := by omega
      subst hkn
      rw [List.take_length] at hown
      obtain ⟨A2, c2, rfl, hi2, _, _⟩ := ints_of_own hown.out
      have HI2 := Lib.hid hi2
      have HW := Lib.hid (H.out.below hbel.out (by rw [HB.out]; exact Nat.le_refl _))
      have hpl : (places f b a xs).length ≤ 1201 := by rw [places_len]; omega
      have HPB := Lib.hid (places_bd (f := f) (b := b) (a := a) HBD.out gf gb ga)
      have HVL := Lib.hid (show V = (places f b a xs).foldl (stepS f b a xs) (0, false) from HV.out)
      clear hi2 hown
      generalize places f b a xs = L at *
      go_wp2_with fail
      go_loop [58, 13, 14] (fun i vb vo => ∃ (k : Nat) (best : Int) (ok : Bool), k ≤ L.length ∧ i = .int .i64 k ∧ vb = .int .i64 best ∧ vo = .bool ok ∧ 0 ≤ best ∧ best ≤ 5184000 ∧ Hid (V = (L.drop k).foldl (stepS f b a xs) (best, ok))) (fun i _ _ => L.length - (intOf i).toNat)
      case atStart => exact ⟨0, 0, false, by omega, rfl, rfl, rfl, by omega, by omega, Lib.hid HVL.out⟩
      case round =>
        obtain ⟨k, best, ok, hk2, rfl, rfl, rfl, hb1, hb2, hv⟩ := hrel
        by_cases hlt2 : k < L.length
        · obtain ⟨b3, off3, rfl, hc3⟩ := HI2.out.get hlt2
          have hxb := HPB.out (L.getD k 0) (by simp [hlt2])
          have HD := Lib.hid (foldS_drop (f := f) (b := b) (a := a) (xs := xs) hlt2 (best, ok))
          generalize L.getD k 0 = x at *
          cases hxf : fr x with
          | false =>
            have hv2 := Lib.hid (hv.out.trans (by rw [HD.out, stepS_nofr hxf]))
            clear hv HD
            go_wp2_with fail
            refine (framer_any x _).mono ?_
            rintro e w' ⟨rfl, rfl⟩
            rw [hxf]
            go_wp2_with fail
            go_round
            case rel => exact ⟨k + 1, best, ok, by omega, by go_num, rfl, rfl, hb1, hb2, Lib.hid hv2.out⟩
            case measure => simp [intOf]; omega
          | true =>
            have HXF := Lib.hid hxf
            have gx := fr_of hxf
            clear hxf
            cases htc : tooC x b a xs with
            | some cc =>
              have hv2 := Lib.hid (hv.out.trans (by rw [HD.out, stepS_bad htc]))
              have HTC := Lib.hid (tcV_some htc)
              clear hv HD htc
              go_wp2_with fail
              refine (framer_any x _).mono ?_
              rintro e w' ⟨rfl, rfl⟩
              rw [HXF.out]
              go_wp2_with fail
              refine (closer_yes A c xs x b a _ HW.out hl (by simp [usb, H0.out, HXF.out, HFB.out, HFA.out])).mono ?_
              rintro e w' ⟨rfl, rfl⟩
              rw [HTC.out]
              go_wp2_with fail
              go_round
              case rel => exact ⟨k + 1, best, ok, by omega, by go_num, rfl, rfl, hb1, hb2, Lib.hid hv2.out⟩
              case measure => simp [intOf]; omega
            | none =>
              have HTC := Lib.hid (tcV_none htc)
              have HTN := Lib.hid htc
              clear htc
              cases ok with
              | false =>
                have hv2 := Lib.hid (hv.out.trans (by rw [HD.out, stepS_take HXF.out HTN.out (by simp [better])]))
                clear hv HD
                go_wp2_with fail
                refine (framer_any x _).mono ?_
                rintro e w' ⟨rfl, rfl⟩
                rw [HXF.out]
                go_wp2_with fail
                refine (closer_yes A c xs x b a _ HW.out hl (by simp [usb, H0.out, HXF.out, HFB.out, HFA.out])).mono ?_
                rintro e w' ⟨rfl, rfl⟩
                rw [HTC.out]
                go_wp2_with fail
                go_round
                case rel => exact ⟨k + 1, x, true, by omega, by go_num, rfl, rfl, gx.1, gx.2, Lib.hid hv2.out⟩
                case measure => simp [intOf]; omega
              | true =>
                go_wp2_with fail
                refine (framer_any x _).mono ?_
                rintro e w' ⟨rfl, rfl⟩
                rw [HXF.out]
                go_wp2_with fail
                refine (closer_yes A c xs x b a _ HW.out hl (by simp [usb, H0.out, HXF.out, HFB.out, HFA.out])).mono ?_
                rintro e w' ⟨rfl, rfl⟩
                rw [HTC.out]
                go_wp2_with fail
                refine (sizer_any (x - f) _ (by omega) (by omega)).mono ?_
                rintro e w' ⟨rfl, rfl⟩
                go_wp2_with fail
                refine (sizer_any (best - f) _ (by omega) (by omega)).mono ?_
                rintro e w' ⟨rfl, rfl⟩
                have sb1 := sz_bd (n := x - f) (by omega) (by omega)
                have sb2 := sz_bd (n := best - f) (by omega) (by omega)
                by_cases hcmp : sz (x - f) < sz (best - f)
                · have hv2 := Lib.hid (hv.out.trans (by rw [HD.out, stepS_take HXF.out HTN.out (by simp [better, hcmp])]))
                  clear hv HD
                  go_wp2_with fail
                  go_round
                  case rel => exact ⟨k + 1, x, true, by omega, by go_num, rfl, rfl, gx.1, gx.2, Lib.hid hv2.out⟩
                  case measure => simp [intOf]; omega
                · have hcmp' : sz (best - f) ≤ sz (x - f) := by omega
                  clear hcmp
                  go_wp2_with fail
                  refine (sizer_any (x - f) _ (by omega) (by omega)).mono ?_
                  rintro e w' ⟨rfl, rfl⟩
                  go_wp2_with fail
                  refine (sizer_any (best - f) _ (by omega) (by omega)).mono ?_
                  rintro e w' ⟨rfl, rfl⟩
                  by_cases heq : sz (x - f) = sz (best - f)
                  · have heb : (sz (x - f) == sz (best - f)) = true := by rw [heq]; exact beq_self_eq_true _
                    by_cases hxl : x < best
                    · have hv2 := Lib.hid (hv.out.trans (by rw [HD.out, stepS_take HXF.out HTN.out (by simp [better, heq, hxl])]))
                      clear hv HD
                      go_wp2_with fail
                      go_round
                      case rel => exact ⟨k + 1, x, true, by omega, by go_num, rfl, rfl, gx.1, gx.2, Lib.hid hv2.out⟩
                      case measure => simp [intOf]; omega
                    · have hxl' : best ≤ x := by omega
                      have hv2 := Lib.hid (hv.out.trans (by rw [HD.out, stepS_keep (by simp [better, heq] <;> omega)]))
                      clear hv HD hxl
                      go_wp2_with fail
                      go_round
                      case rel => exact ⟨k + 1, best, true, by omega, by go_num, rfl, rfl, hb1, hb2, Lib.hid hv2.out⟩
                      case measure => simp [intOf]; omega
                  · have heb : (sz (x - f) == sz (best - f)) = false := by rw [beq_eq_false_iff_ne]; exact heq
                    have hv2 := Lib.hid (hv.out.trans (by rw [HD.out, stepS_keep (by simp [better, heq] <;> omega)]))
                    clear hv HD heq
                    go_wp2_with fail
                    go_round
                    case rel => exact ⟨k + 1, best, true, by omega, by go_num, rfl, rfl, hb1, hb2, Lib.hid hv2.out⟩
                    case measure => simp [intOf]; omega
        · have hv2 := Lib.hid (hv.out.trans (by rw [List.drop_eq_nil_of_le (by omega)] <;> rfl))
          clear hv
          go_wp2_with fail
          go_ret2
          exact ⟨by rw [hv2.out]; rfl, by rw [← HB.out]; exact hbel.out⟩

end Go.Proofs.YtnnhbnkelgmaaaaDoor
