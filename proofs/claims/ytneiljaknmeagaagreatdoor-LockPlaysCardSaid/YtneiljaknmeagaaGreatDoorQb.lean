/-
  The contract of Number in the program. Its conditions are its hypotheses.
-/
import Derived.Test.YtneiljaknmeagaaGreatDoorBg
namespace Go.Proofs.YtneiljaknmeagaaGreatDoor
open Go.RowKit Go.Joins
set_option linter.unusedVariables false
set_option linter.unusedSimpArgs false
/-- What Number from 0 on gives: the number, or an error. -/
def NumQ (m : Int) (l : List UInt8) (B : Nat) (W : World) (e : Ending) (w' : World) : Prop := (∃ n E : Int, e = .returned (.tuple #[.int .i64 n, .int .i64 E]) ∧ ((E = 0 ∧ numP m l = some n) ∨ (E ≠ 0 ∧ numP m l = none))) ∧ Below B W w'
theorem bt_sB {l : List UInt8} {k : Nat} {b : UInt8} (h : l[k]? = some b) : bt (sB l) k = b := by
  unfold bt
  rw [sB_list, List.getD_eq_getElem?_getD, h]
  rfl
theorem okI_ok {l : List UInt8} {v : Int} (h : okI (Lib.parseIntB 64 l) = some v) : Lib.parseIntB 64 l = .ok v := by
  rcases hp : Lib.parseIntB 64 l with u | _ | _
  · rw [hp] at h
    have e : u = v := Option.some.inj h
    rw [e]
  · rw [hp] at h; cases h
  · rw [hp] at h; cases h
theorem okI_no {l : List UInt8} {v : Int} (h : okI (Lib.parseIntB 64 l) = none) : Lib.parseIntB 64 l ≠ .ok v := fun e => by rw [e] at h; cases h
def ngB (l : List UInt8) : Bool := decide (l.head? = some 45)
def dgL (l : List UInt8) : List UInt8 := if ngB l = true then l.drop 1 else l
theorem dgL_len (l : List UInt8) : (dgL l).length ≤ l.length := by
  unfold dgL
  split
  · rw [List.length_drop]; omega
  · exact Nat.le_refl _
theorem dgL_sub {l : List UInt8} {b : UInt8} (h : b ∈ dgL l) : b ∈ l := by
  unfold dgL at h
  split at h
  · exact List.mem_of_mem_drop h
  · exact h
theorem ng_mem {l : List UInt8} (h : ngB l = true) : l = 45 :: dgL l := by
  have h2 : l.head? = some 45 := of_decide_eq_true h
  unfold dgL
  rw [if_pos h]
  cases l with
  | nil => cases h2
  | cons x r => have e : x = 45 := Option.some.inj h2; rw [e]; rfl
theorem ng_none {m : Int} {l : List UInt8} (h : ngB l = true) : numP m l = none := numP_bad (b := 45) (by rw [ng_mem h]; exact List.mem_cons_self ..) (by decide)
theorem take_one (l : List UInt8) : ((sB l).extract 0 1).toList = l.take 1 := by
  rw [Lib.toList_data, Lib.extract_from_zero, sB_list]
theorem sB_drop (l : List UInt8) (k : Nat) : (sB l).extract k l.length = sB (l.drop k) := ByteArray.ext (by
  apply Array.ext'
  simp [sB, List.drop_take]
  exact List.take_of_length_le (by simp))
theorem take_dec (l : List UInt8) : (l.take 1 == [45]) = ngB l := by
  unfold ngB
  cases l with
  | nil => rfl
  | cons x r =>
    by_cases h : x = 45
    · simp [h]
    · simp [h]
theorem hasp_any (l : List UInt8) (w : World) (hs : l.length ≤ 100000) :
    Calls Tryz.prog 113 #[.string (sB l), .string ⟨#[45]⟩] w fun e w' => e = .returned (.bool (ngB l)) ∧ w' = w := by
  have hz := sB_size l
  by_cases h1 : 1 ≤ l.length
  · have h1' : (1 : Int) ≤ ((sB l).size : Int) := by omega
    go_enter Tryz.func113, Tryz.ntmps113
    go_wp2_with fail
    go_ret
    exact ⟨by rw [take_one, take_dec]; rfl, rfl⟩
  · have h1' : ((sB l).size : Int) < 1 := by omega
    have hl : ngB l = false := by rw [List.eq_nil_of_length_eq_zero (l := l) (by omega)]; rfl
    rw [hl]
    clear hl
    go_enter Tryz.func113, Tryz.ntmps113
    go_wp2_with fail
    go_ret
    exact ⟨rfl, rfl⟩
theorem cutp_any (l : List UInt8) (w : World) (hs : l.length ≤ 100000) :
    Calls Tryz.prog 90 #[.string (sB l), .string ⟨#[45]⟩] w fun e w' => e = .returned (.tuple #[.string (sB (dgL l)), .bool (ngB l)]) ∧ w' = w := by
  have hz := sB_size l
  have HP := Lib.hid (fun W => hasp_any l W hs)
  have h2 : Calls Tryz.prog 103 #[.string (sB l), .string ⟨#[45]⟩] w fun e w' => e = .returned (.tuple #[.string (sB (dgL l)), .bool (ngB l)]) ∧ w' = w := by
    cases hn : ngB l with
    | true =>
      rw [hn] at HP
      have hl1 : (1 : Int) ≤ ((sB l).size : Int) := by
        rw [hz]
        have := congrArg List.length (ng_mem hn)
        simp at this
        omega
      have he : sB (dgL l) = (sB l).extract 1 l.length := by
        rw [sB_drop]
        unfold dgL
        rw [if_pos hn]
      rw [he]
      clear hn he
      go_enter Tryz.func103, Tryz.ntmps103
      go_wp2_with fail
      refine (HP.out w).mono ?_
      rintro e w1 ⟨rfl, rfl⟩
      go_wp2_with fail
      go_ret2
      exact ⟨rfl, rfl⟩
    | false =>
      rw [hn] at HP
      have he : sB (dgL l) = sB l := by
        unfold dgL
        rw [if_neg (by rw [hn]; decide)]
      rw [he]
      clear hn he
      go_enter Tryz.func103, Tryz.ntmps103
      go_wp2_with fail
      refine (HP.out w).mono ?_
      rintro e w1 ⟨rfl, rfl⟩
      go_wp2_with fail
      go_ret2
      exact ⟨rfl, rfl⟩
  generalize dgL l = d at *
  generalize ngB l = b at *
  go_enter Tryz.func90, Tryz.ntmps90
  go_wp2_with fail
  refine h2.mono ?_
  rintro e w1 ⟨rfl, rfl⟩
  go_wp2_with fail
  go_ret2
  exact ⟨rfl, rfl⟩
theorem isD_t {b : UInt8} (h : isD b = true) : 48 ≤ (b.toNat : Int) ∧ (b.toNat : Int) ≤ 57 := by
  simp only [isD, Bool.and_eq_true, decide_eq_true_eq] at h
  omega
theorem isD_f {b : UInt8} (h : isD b = false) : (b.toNat : Int) < 48 ∨ 57 < (b.toNat : Int) := by
  simp only [isD, Bool.and_eq_false_iff, decide_eq_false_iff_not] at h
  omega
theorem eq_nilB (d : List UInt8) : ((sB d).toList == ([] : List UInt8)) = decide (d = []) := by
  rw [Lib.toList_data, sB_list]
  cases d <;> rfl
/-- How the number that is read stands to the one that is looked for. -/
theorem num_ends {m : Int} {l d : List UInt8} {ng : Bool} {b0 : UInt8} {n : Int} {R : Option Int} (hR : R = numP m l) (hd : d = dgL l) (hng : ng = ngB l) (hh : d.head? = some b0) (h48 : ¬ (b0 = 48 ∧ (1 < d.length ∨ ng = true))) (ha : ∀ b ∈ d, isD b = true) (hn : digs 0 d = some n) (h0 : 0 ≤ m) (h1 : m ≤ 9223372036854775807) :
    (∀ v, Lib.parseIntB 64 l = .ok v → (v < 0 ∧ R = none) ∨ (0 ≤ v ∧ v ≤ m ∧ R = some v) ∨ (0 ≤ v ∧ m < v ∧ R = none)) ∧ ((∀ v, Lib.parseIntB 64 l ≠ .ok v) → R = none) := by
  have hne : d ≠ [] := fun e => by rw [e] at hh; cases hh
  have hb0 := ha b0 (List.mem_of_mem_head? hh)
  cases hb : ng with
  | true =>
    have hgn := hng.symm.trans hb
    have hRn : R = none := hR.trans (ng_none hgn)
    refine ⟨fun v hv => .inl ⟨?_, hRn⟩, fun _ => hRn⟩
    rw [ng_mem hgn, ← hd] at hv
    obtain ⟨u, hu, rfl⟩ := int_neg hv
    have h1u := (digs_back d u hu hne (fun e => h48 ⟨by rw [e] at hh; exact (Option.some.inj hh).symm, .inr hb⟩)).1
    omega
  | false =>
    have hl : d = l := by
      rw [hd]
      unfold dgL
      rw [if_neg (by rw [← hng, hb]; decide)]
    rw [← hl] at hR ⊢
    have hc : d.head? ≠ some 48 ∨ d = [48] := by
      by_cases e : d.head? = some 48
      · right
        have e0 : b0 = 48 := by rw [e] at hh; exact (Option.some.inj hh).symm
        have hl1 : ¬ 1 < d.length := fun h => h48 ⟨e0, .inl h⟩
        cases d with
        | nil => exact absurd rfl hne
        | cons x r =>
          have hr : r = [] := List.eq_nil_of_length_eq_zero (by have : (x :: r).length = r.length + 1 := rfl; omega)
          rw [hr, Option.some.inj e]
      · exact .inl e
    have hcn := canon_itoa hn hne hc
    constructor
    · intro v hv
      have hv2 := int_digs hv (fun e => by
        rw [hh] at e
        have e := Option.some.inj e
        rw [e] at hb0
        exact absurd hb0 (by decide)) (fun e => by
        rw [hh] at e
        have e := Option.some.inj e
        rw [e] at hb0
        exact absurd hb0 (by decide))
      rw [hn] at hv2
      have e := Option.some.inj hv2
      subst e
      by_cases hm : n ≤ m
      · exact .inr (.inl ⟨hcn.1, hm, hR.trans (numP_ok hn hne hc hm)⟩)
      · exact .inr (.inr ⟨hcn.1, by omega, hR.trans (numP_big hn (by omega))⟩)
    · intro hno
      by_cases hm : n ≤ m
      · exact absurd (canon_ok hn hne hc (by omega)) (hno n)
      · exact hR.trans (numP_big hn (by omega))
set_option maxRecDepth 100000 in
set_option maxHeartbeats 4000000 in
theorem number_any (m : Int) (l : List UInt8) (w : World) (hs : l.length ≤ 100000) (h0 : 0 ≤ m) (h1 : m ≤ 9223372036854775807) (hw : Wd w) :
    Calls Tryz.prog 77 #[.string (sB l), .int .i64 0, .int .i64 m] w (NumQ m l w.heap.size w) := by
  have HCP := Lib.hid (cutp_any l w hs)
  have HPI := Lib.hid (pint_any l w hs hw)
  unfold PintP at HPI
  obtain ⟨d, hd⟩ : ∃ d, d = dgL l := ⟨_, rfl⟩
  obtain ⟨ng, hng⟩ : ∃ b, b = ngB l := ⟨_, rfl⟩
  have HD := Lib.hid hd
  have HNG := Lib.hid hng
  have hdl : d.length ≤ 100000 := by have := dgL_len l; rw [hd]; omega
  have hz := sB_size d
  have e1 := eq_nilB d
  rw [← hd, ← hng] at HCP
  obtain ⟨R, hR⟩ : ∃ R, R = numP m l := ⟨_, rfl⟩
  have HR := Lib.hid hR
  unfold NumQ
  obtain ⟨B, hB⟩ : ∃ B, B = w.heap.size := ⟨_, rfl⟩
  have HB := Lib.hid hB
  rw [← hR]
  rw [← hB] at HPI ⊢
  have HW0 := Lib.hid (show Below B w w from HB.out ▸ Below.refl _ _)
  clear hd hng hR hB hw
  by_cases hn : d = []
  · have HRN : Hid (R = none) := Lib.hid <| by
      rw [HR.out]
      cases hb : ng with
      | true => exact ng_none (HNG.out ▸ hb)
      | false =>
        have hl : l = [] := by
          have := HD.out
          unfold dgL at this
          rw [if_neg (by rw [← HNG.out, hb]; decide)] at this
          rw [← this, hn]
        rw [hl, numP_nil]
    have e2 : ((sB d).toList == ([] : List UInt8)) = true := by rw [e1]; exact decide_eq_true hn
    clear e1 hn
    go_enter Tryz.func77, Tryz.ntmps77
    go_wp2_with fail
    refine HCP.out.mono ?_
    rintro e w1 ⟨rfl, rfl⟩
    go_wp2_with fail
    go_ret2
    exact ⟨⟨_, _, rfl, .inr ⟨by decide, HRN.out⟩⟩, HW0.out⟩
  · have e2 : ((sB d).toList == ([] : List UInt8)) = false := by rw [e1]; exact decide_eq_false hn
    have hp : 0 < d.length := List.length_pos_iff.2 hn
    have hp' : 0 < (sB d).size := by omega
    have ix0 := fun w' => idx_str (s := sB d) (x := 0) (j := 0) rfl hp' w'
    obtain ⟨b0, hb0⟩ : ∃ b, d[0]? = some b := ⟨_, List.getElem?_eq_getElem hp⟩
    rw [bt_sB hb0] at ix0
    have HB0 := Lib.hid hb0
    have hh : d.head? = some b0 := by rw [List.head?_eq_getElem?]; exact hb0
    have HH := Lib.hid hh
    clear e1 hh hb0
    by_cases h48 : b0 = 48 ∧ (1 < d.length ∨ ng = true)
    · obtain ⟨rfl, h49⟩ := h48
      have HRN : Hid (R = none) := Lib.hid <| by
        rw [HR.out]
        cases hb : ng with
        | true => exact ng_none (HNG.out ▸ hb)
        | false =>
          have hl : d = l := by
            have := HD.out
            unfold dgL at this
            rw [if_neg (by rw [← HNG.out, hb]; decide)] at this
            exact this
          rw [← hl]
          exact numP_zeros HH.out (h49.resolve_right (by rw [hb]; decide))
      have t0 : (((48 : UInt8).toNat : Int) == 48) = true := rfl
      by_cases h1l : 1 < d.length
      · have h1l' : (1 : Int) < ((sB d).size : Int) := by omega
        go_enter Tryz.func77, Tryz.ntmps77
        go_wp2_with fail
        refine HCP.out.mono ?_
        rintro e w1 ⟨rfl, rfl⟩
        go_wp2_with fail
        go_ret2
        exact ⟨⟨_, _, rfl, .inr ⟨by decide, HRN.out⟩⟩, HW0.out⟩
      · have h1l' : ¬ (1 : Int) < ((sB d).size : Int) := by omega
        obtain rfl : ng = true := h49.resolve_left h1l
        go_enter Tryz.func77, Tryz.ntmps77
        go_wp2_with fail
        refine HCP.out.mono ?_
        rintro e w1 ⟨rfl, rfl⟩
        go_wp2_with fail
        go_ret2
        exact ⟨⟨_, _, rfl, .inr ⟨by decide, HRN.out⟩⟩, HW0.out⟩
    · have H48 := Lib.hid h48
      go_enter Tryz.func77, Tryz.ntmps77
      go_wp2_with fail
      refine HCP.out.mono ?_
      rintro e w1 ⟨rfl, rfl⟩
      have hcs : ((b0.toNat : Int) == 48) = false ∨ (((b0.toNat : Int) == 48) = true ∧ ¬ (1 : Int) < ((sB d).size : Int) ∧ ng = false) := by
        by_cases h : b0 = 48
        · refine .inr ⟨by rw [h]; rfl, ?_, ?_⟩
          · intro hh
            exact h48 ⟨h, .inl (by omega)⟩
          · cases hb : ng with
            | false => rfl
            | true => exact absurd ⟨h, .inr hb⟩ h48
        · left
          rw [beq_eq_false_iff_ne]
          intro e
          exact h (UInt8.toNat_inj.1 (by simp; omega))
      clear h48
      rcases hcs with t1 | ⟨t1, t2, rfl⟩
      all_goals
        go_wp2_with fail
        go_loopw [35] (fun i wr => ∃ k : Nat, k ≤ d.length ∧ i = .int .i64 k ∧ Hid (∀ j b, j < k → d[j]? = some b → isD b = true) ∧ wr = w1) (fun i _ => d.length - (intOf i).toNat)
        case atStart => exact ⟨0, by omega, rfl, Lib.hid (fun j b hj _ => by omega), rfl⟩
        case round =>
          obtain ⟨k, hk, rfl, HK, rfl⟩ := hrel
          by_cases hlt : k < d.length
          · have hlt2 : (k : Int) < (d.length : Int) := by omega
            have hlt3 : k < (sB d).size := by omega
            obtain ⟨b, hb⟩ : ∃ b, d[k]? = some b := ⟨_, List.getElem?_eq_getElem hlt⟩
            have ix := fun w' => idx_str (s := sB d) (x := (k : Int)) (j := k) rfl hlt3 w'
            rw [bt_sB hb] at ix
            have HBK := Lib.hid hb
            have hb8 := b.toNat_lt
            cases hc : isD b with
            | true =>
              obtain ⟨c1, c2⟩ := isD_t hc
              have HC := Lib.hid hc
              clear hb hc
              go_wp2_with fail
              go_roundw
              case rel => exact ⟨k + 1, by omega, by go_num, Lib.hid (fun j y hj hy => by
                by_cases hjk : j < k
                · exact HK.out j y hjk hy
                · obtain rfl : j = k := by omega
                  rw [HBK.out] at hy
                  cases hy
                  exact HC.out), by trivial⟩
              case measure => simp [intOf]; omega
            | false =>
              have HRN : Hid (R = none) := Lib.hid (HR.out.trans (numP_bad (dgL_sub (HD.out ▸ List.mem_of_getElem? hb)) hc))
              rcases isD_f hc with c1 | c1
              all_goals
                clear hb hc
                go_wp2_with fail
                go_ret2
                exact ⟨⟨_, _, rfl, .inr ⟨by decide, HRN.out⟩⟩, HW0.out⟩
          · obtain rfl : k = d.length := by omega
            have HALL := Lib.hid (show ∀ b ∈ d, isD b = true from fun b hb => by
              obtain ⟨j, hj, e⟩ := List.mem_iff_getElem.1 hb
              exact HK.out j b hj (by rw [List.getElem?_eq_getElem hj, e]))
            obtain ⟨n, hn0⟩ := digs_all d 0 HALL.out
            have HN := Lib.hid hn0
            have HPO := Lib.hid (num_ends (m := m) (by rw [← HR.out]) HD.out HNG.out HH.out H48.out HALL.out hn0 h0 h1)
            clear hlt hn0
            go_wp2_with fail
            refine HPI.out.mono ?_
            rintro e w2 ⟨⟨v, ev, rfl, hcase⟩, hb⟩
            have G2 := Lib.hid hb
            clear hb
            rcases hcase with ⟨hok, rfl⟩ | ⟨hno, tp, pp, rfl⟩
            · rcases HPO.out.1 v (okI_ok hok) with ⟨hv0, hRn⟩ | ⟨hv0, hv1, hRn⟩ | ⟨hv0, hv1, hRn⟩
              all_goals
                have HRN := Lib.hid hRn
                clear hRn hok
                go_wp2_with fail
                go_ret2
                first
                  | exact ⟨⟨_, _, rfl, .inr ⟨by decide, HRN.out⟩⟩, G2.out⟩
                  | exact ⟨⟨_, _, rfl, .inl ⟨rfl, HRN.out⟩⟩, G2.out⟩
            · have HRN := Lib.hid (HPO.out.2 (fun v => okI_no hno))
              clear hno
              go_wp2_with fail
              go_ret2
              exact ⟨⟨_, _, rfl, .inr ⟨by decide, HRN.out⟩⟩, G2.out⟩
end Go.Proofs.YtneiljaknmeagaaGreatDoor
