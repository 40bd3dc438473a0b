/-
  The contracts of take and of Parse in the program. Their conditions are their hypotheses.
-/
import Derived.Test.YtneiljaknmeagaaGreatDoorQm
namespace Go.Proofs.YtneiljaknmeagaaGreatDoor
open Go.RowKit Go.Joins
set_option linter.unusedVariables false
set_option linter.unusedSimpArgs false
theorem step_bd {i : Nat} {W : List (List UInt8)} {T T' : Tb} (h : stepT i W T = some T') (hn : 0 ≤ T.now ∧ T.now ≤ 10378368000) : (0 ≤ T'.now ∧ T'.now ≤ 10378368000) ∧ T'.ses.length ≤ T.ses.length + 1 ∧ T'.lea.length ≤ T.lea.length + 1 := by
  unfold stepT at h
  split at h
  · split at h
    · rename_i a b c hns
      split at h
      · rename_i ha
        have e := Option.some.inj h
        subst e
        exact ⟨⟨((numsP_some hns).2 a (by simp)).1, ha⟩, by simp, by simp⟩
      · cases h
    · cases h
  · split at h
    · split at h
      · split at h
        · have e := Option.some.inj h
          subst e
          exact ⟨hn, by simp, by simp⟩
        · cases h
      · cases h
    · split at h
      · split at h
        · split at h
          · have e := Option.some.inj h
            subst e
            exact ⟨hn, by simp, by simp⟩
          · cases h
        · cases h
      · cases h
theorem takl_any (B p : Nat) (sv lv : Value) (T : Tb) (i : Nat) (g : Nat) (W : List (List UInt8)) (w : World) (hW : W ≠ []) (hsl : T.ses.length ≤ 1000) (hll : T.lea.length ≤ 1000) (hn : 0 ≤ T.now ∧ T.now ≤ 10378368000) (h : Rep B p sv lv T w) (hr : RowAt w (some ⟨g, 0, none⟩) (W.map strV)) (hg : Out p sv lv w g) (hu : ∀ u ∈ W, u.length ≤ 100000) (hw : Wd w) :
    Calls Tryz.prog 25 #[.pointer (some ⟨p, 0, none⟩), .int .i64 i, .slice (some ⟨g, 0, none⟩) W.length W.length] w (TakP B p sv lv w (stepT i W T)) := by
  obtain ⟨w0, r0, rfl⟩ : ∃ w0 r0, W = w0 :: r0 := by
    cases W with
    | nil => exact absurd rfl hW
    | cons a b => exact ⟨a, b, rfl⟩
  by_cases hA : i = 0 ∧ w0 = locksW ∧ (w0 :: r0).length = 4
  · obtain ⟨rfl, rfl, h4⟩ := hA
    obtain ⟨u1, u2, u3, rfl⟩ : ∃ u1 u2 u3, r0 = [u1, u2, u3] := by
      match r0, h4 with
      | [a, b, c], _ => exact ⟨a, b, c, rfl⟩
    exact take_locks B p sv lv T g u1 u2 u3 w h hr (fun u hu' => hu u (List.mem_cons_of_mem _ hu')) hw
  · by_cases hB : 0 < i ∧ w0 = sessionW ∧ (w0 :: r0).length = 2 ∧ T.lea.length = 0
    · obtain ⟨hi, rfl, h2, hl⟩ := hB
      obtain ⟨u1, rfl⟩ : ∃ u1, r0 = [u1] := by
        match r0, h2 with
        | [a], _ => exact ⟨a, rfl⟩
      exact take_ses B p sv lv T i g u1 w hi (List.eq_nil_of_length_eq_zero hl) hsl h hr (fun u hu' => hu u (List.mem_cons_of_mem _ hu')) hw
    · by_cases hC : 0 < i ∧ w0 = leaW ∧ (w0 :: r0).length = 5
      · obtain ⟨hi, rfl, h5⟩ := hC
        obtain ⟨r, u1, u2, u3, rfl⟩ : ∃ r u1 u2 u3, r0 = [r, u1, u2, u3] := by
          match r0, h5 with
          | [r, a, b, c], _ => exact ⟨r, a, b, c, rfl⟩
        exact take_lea B p sv lv T i g r u1 u2 u3 w hi hsl hll hn.1 hn.2 h hr hg (fun u hu' => hu u (List.mem_cons_of_mem _ (List.mem_cons_of_mem _ hu'))) hw
      · have hS : stepT i (w0 :: r0) T = none := by
          unfold stepT
          rw [if_neg (fun hh => hA ⟨hh.1, Option.some.inj hh.2.1, hh.2.2⟩), if_neg (fun hh => hB ⟨hh.1, Option.some.inj hh.2.1, hh.2.2.1, by rw [hh.2.2.2]; rfl⟩), if_neg (fun hh => hC ⟨hh.1, Option.some.inj hh.2.1, hh.2.2⟩)]
        rw [hS]
        refine (take_no B p sv lv T i g (w0 :: r0).length w0 w h (row_cell hr (k := 0) rfl) (by simp) hA hB hC).mono ?_
        rintro e w' ⟨rfl, rfl⟩
        exact ⟨false, rfl, .inr ⟨rfl, rfl, Below.refl _ _⟩⟩
/-- What Parse gives. -/
def ParP (s : List UInt8) (w : World) (e : Ending) (w' : World) : Prop :=
  ((∃ p sv lv T, parT s = some T ∧ e = .returned (.tuple #[.pointer (some ⟨p, 0, none⟩), .int .i64 0]) ∧ Rep w.heap.size p sv lv T w') ∨ (parT s = none ∧ e = .returned (.tuple #[.pointer none, .int .i64 4]))) ∧ Below w.heap.size w w'
theorem row_heap {w w' : World} {g : Nat} {xs : List Value} (h : RowAt w (some ⟨g, 0, none⟩) xs) (e : w'.heap[g]? = w.heap[g]?) : RowAt w' (some ⟨g, 0, none⟩) xs := by
  intro k u hk
  obtain ⟨b, o, e1, hc⟩ := h k u hk
  cases e1
  refine ⟨g, 0, rfl, ?_⟩
  rw [← hc]
  unfold World.cell?
  simp only [e]
theorem words_in {c : UInt8} : ∀ {s u : List UInt8}, u ∈ wordsC c s → u.length ≤ s.length := by
  intro s u hu
  have h := join_words c s
  have h2 : ∀ (ws : List (List UInt8)), u ∈ ws → u.length ≤ (Lib.join ws [c]).length := by
    intro ws
    induction ws with
    | nil => intro h; cases h
    | cons a r ih =>
      intro hm
      cases r with
      | nil =>
        rw [List.mem_singleton.1 hm, Lib.join_one]
        exact Nat.le_refl _
      | cons b t =>
        rw [join_two]
        simp only [List.length_append]
        rcases List.mem_cons.1 hm with rfl | hm
        · omega
        · have := ih hm
          omega
  have := h2 _ hu
  rwa [h] at this
set_option maxRecDepth 100000 in
set_option maxHeartbeats 8000000 in
theorem parse_any (s : List UInt8) (w : World) (hs : s.length ≤ 900) (hw : Wd w) :
    Calls Tryz.prog 6 #[.string (sB s)] w (ParP s w) := by
  have HCS := Lib.hid (fun W => cuts_any s W (by omega))
  have HW := Lib.hid hw
  obtain ⟨R, hR⟩ : ∃ R, R = parT s := ⟨_, rfl⟩
  unfold ParP
  rw [← hR]
  obtain ⟨B, hB⟩ : ∃ B, B = w.heap.size := ⟨_, rfl⟩
  have HB := Lib.hid hB
  rw [← hB]
  clear hw
  cases hn : nlB s with
  | false =>
    have HN := Lib.hid (show R = none from hR.trans (ref_none3 (of_decide_eq_false hn)))
    rw [hn] at HCS
    clear hn hR
    generalize bodL s = bd at *
    go_enter Tryz.func6, Tryz.ntmps6
    go_wp2_with fail
    refine (HCS.out w).mono ?_
    rintro e w1 ⟨rfl, rfl⟩
    go_wp2_with fail
    go_ret2
    exact ⟨.inr ⟨HN.out, rfl⟩, HB.out ▸ Below.refl _ _⟩
  | true =>
    have hbl : (bodL s).length ≤ 900 := by
      unfold bodL
      rw [if_pos hn, List.length_dropLast]
      omega
    have HR := Lib.hid (show R = lnsT 0 (wordsC 10 (bodL s)) tb0 by
      rw [hR]
      unfold parT bodL
      rw [if_pos (of_decide_eq_true hn), if_pos hn])
    rw [hn] at HCS
    clear hn hR
    generalize bodL s = bd at *
    have HLN := Lib.hid (Nat.le_trans (wordsG_le 10 bd) (Nat.succ_le_succ hbl))
    have HUL := Lib.hid (show ∀ u ∈ wordsC 10 bd, u.length ≤ 900 from fun u hu => Nat.le_trans (words_in hu) hbl)
    have HSP := Lib.hid (fun W hW => splitg_any 10 bd W (by omega) hW)
    obtain ⟨L, hL⟩ : ∃ L, L = wordsC 10 bd := ⟨_, rfl⟩
    rw [← hL] at HR HLN HUL HSP
    clear hL hbl hB
    go_enter Tryz.func6, Tryz.ntmps6
    go_wp2_with fail
    refine (HCS.out w).mono ?_
    rintro e w0 ⟨rfl, rfl⟩
    go_wp2_with fail
    refine (new_any w0).mono ?_
    rintro e w1 ⟨rfl, h1, b1, z1⟩
    rw [← HB.out] at h1 b1 z1 ⊢
    have H1 := Lib.hid h1
    have G1 := Lib.hid b1
    have hB1 : B ≤ w1.heap.size := by omega
    have HW1 := Lib.hid (HW.out.on (by rw [← HB.out]; exact b1))
    clear h1 b1 z1
    go_wp2_with fail
    refine (HSP.out w1 HW1.out).mono ?_
    rintro e w2 ⟨rfl, hw2⟩
    have G2 := Lib.hid (show Below w1.heap.size w1 w2 by rw [hw2]; exact below_one _ _)
    obtain ⟨gL, hgL⟩ : ∃ g, g = w1.heap.size := ⟨_, rfl⟩
    rw [← hgL]
    have HLR := Lib.hid (show RowAt w2 (some ⟨gL, 0, none⟩) (L.map strV) by
      rw [hw2]
      exact row_of_cells (CellsAt.of_all (fun j u hj => by
        rw [hgL]
        simp [go_sem]
        simpa [strV] using hj)))
    have H2 := Lib.hid (H1.out.ext G2.out)
    have HO2 := Lib.hid (show Out B (.slice none 0 0) (.slice none 0 0) w2 gL from H1.out.out_new (by omega) (by rw [hw2, hgL]; simp))
    have G2' := Lib.hid (show Below B w0 w2 from G1.out.trans (G2.out.mono hB1))
    clear hw2 hgL hB1
    go_wp2_with fail
    go_loopw [20] (fun i wr => ∃ (k : Nat) (T : Tb) (sv lv : Value), k ≤ L.length ∧ i = .int .i64 k ∧ Hid (R = lnsT k (L.drop k) T) ∧ Hid (Rep B B sv lv T wr) ∧ Hid (RowAt wr (some ⟨gL, 0, none⟩) (L.map strV)) ∧ Hid (Out B sv lv wr gL) ∧ Hid ((0 ≤ T.now ∧ T.now ≤ 10378368000) ∧ T.ses.length ≤ k ∧ T.lea.length ≤ k) ∧ Hid (Below B w0 wr)) (fun i _ => L.length - (intOf i).toNat)
    case atStart => exact ⟨0, tb0, _, _, by omega, rfl, HR, H2, HLR, HO2, Lib.hid ⟨by decide, by decide, by decide⟩, G2'⟩
    case round =>
      obtain ⟨k, T, sv, lv, hk, rfl, HK, HT, HL, HO, HBD, G⟩ := hrel
      have hBw : B ≤ wr.heap.size := by have := G.out.size; have := HB.out; omega
      by_cases hlt : k < L.length
      · have hlt2 : (k : Int) < (L.length : Int) := by omega
        have hLb : L.length ≤ 901 := HLN.out
        have hkb : (k : Int) ≤ 901 := by omega
        obtain ⟨u, hu⟩ : ∃ u, L[k]? = some u := ⟨_, List.getElem?_eq_getElem hlt⟩
        have HU := Lib.hid hu
        have ec : wr.cell? ⟨gL, 0 + k, none⟩ = some (.string (sB u)) := row_cell HL.out hu
        rw [Nat.zero_add] at ec
        have hul := HUL.out u (List.mem_of_getElem? hu)
        have HSW := Lib.hid (splitg_any 32 u wr (by omega) (HW.out.on (HB.out ▸ G.out)))
        have HKS := Lib.hid (show R = (match stepT k (wordsC 32 u) T with | some T' => lnsT (k + 1) (L.drop (k + 1)) T' | none => none) by
          rw [HK.out, List.drop_eq_getElem_cons hlt, lnsT]
          rw [(List.getElem?_eq_some_iff.1 hu).2]
          cases stepT k (wordsC 32 u) T <;> rfl)
        have HWN := Lib.hid (wordsC_ne 32 u)
        have HWL := Lib.hid (show ∀ x ∈ wordsC 32 u, x.length ≤ 100000 from fun x hx => Nat.le_trans (words_in hx) (by omega))
        clear hu hul
        go_wp2_with fail
        refine HSW.out.mono ?_
        rintro e w3 ⟨rfl, hw3⟩
        have G3 := Lib.hid (show Below wr.heap.size wr w3 by rw [hw3]; exact below_one _ _)
        obtain ⟨g, hg⟩ : ∃ g, g = wr.heap.size := ⟨_, rfl⟩
        rw [← hg]
        have HWR := Lib.hid (show RowAt w3 (some ⟨g, 0, none⟩) ((wordsC 32 u).map strV) by
          rw [hw3]
          exact row_of_cells (CellsAt.of_all (fun j z hj => by
            rw [hg]
            simp [go_sem]
            simpa [strV] using hj)))
        have HOW := Lib.hid (show Out B sv lv w3 g from HT.out.out_new (by omega) (by rw [hw3, hg]; simp))
        have HT3 := Lib.hid (HT.out.ext G3.out)
        have G4 := Lib.hid (show Below B w0 w3 from G.out.trans (G3.out.mono hBw))
        have HL3 := Lib.hid (HL.out.ext G3.out)
        have HO3 := Lib.hid (show Out B sv lv w3 gL from ⟨Nat.lt_of_lt_of_le HO.out.1 G3.out.size, HO.out.2⟩)
        have HTK := Lib.hid (takl_any B B sv lv T k g (wordsC 32 u) w3 HWN.out (by have := HBD.out.2.1; have := HLN.out; omega) (by have := HBD.out.2.2; have := HLN.out; omega) HBD.out.1 HT3.out HWR.out HOW.out HWL.out (HW.out.on (HB.out ▸ G4.out)))
        clear hw3 hg ec
        go_wp2_with fail
        refine HTK.out.mono ?_
        rintro e w5 ⟨b, rfl, hor⟩
        rcases hor with ⟨rfl, T', sv', lv', hst, hrep, hfr⟩ | ⟨rfl, hst, hbel⟩
        · have HK5 := Lib.hid (show R = lnsT (k + 1) (L.drop (k + 1)) T' by rw [HKS.out, hst])
          have HR5 := Lib.hid hrep
          have HL5 := Lib.hid (row_heap HL3.out (hfr.heap HO3.out))
          have HO5 := Lib.hid (hfr.out HO3.out)
          have HB5 := Lib.hid (show (0 ≤ T'.now ∧ T'.now ≤ 10378368000) ∧ T'.ses.length ≤ k + 1 ∧ T'.lea.length ≤ k + 1 by
            obtain ⟨s1, s2, s3⟩ := step_bd hst HBD.out.1
            exact ⟨s1, by have := HBD.out.2.1; omega, by have := HBD.out.2.2; omega⟩)
          have G5 := Lib.hid (G4.out.trans hfr.below)
          clear hst hrep hfr
          go_wp2_with fail
          go_roundw
          case rel => exact ⟨k + 1, T', sv', lv', by omega, by go_num, HK5, HR5, HL5, HO5, HB5, G5⟩
          case measure => simp [intOf]; omega
        · have HN := Lib.hid (show R = none by rw [HKS.out, hst])
          have G5 := Lib.hid (G4.out.trans hbel)
          clear hst hbel
          go_wp2_with fail
          go_ret2
          exact ⟨.inr ⟨HN.out, rfl⟩, G5.out⟩
      · obtain rfl : k = L.length := by omega
        have HY := Lib.hid (show R = some T by rw [HK.out, List.drop_length]; rfl)
        clear hlt
        go_wp2_with fail
        go_ret2
        exact ⟨.inl ⟨B, sv, lv, T, HY.out, rfl, HT.out⟩, G.out⟩
end Go.Proofs.YtneiljaknmeagaaGreatDoor
