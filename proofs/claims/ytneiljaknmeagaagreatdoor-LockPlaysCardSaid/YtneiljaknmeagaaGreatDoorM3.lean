/-
  The contract of Take. Its conditions are its hypotheses.
-/
import Derived.Test.YtneiljaknmeagaaGreatDoorBe
import Derived.Test.YtneiljaknmeagaaGreatDoorK6
namespace Go.Proofs.YtneiljaknmeagaaGreatDoor
open Go.RowKit Go.Joins
set_option linter.unusedVariables false
set_option linter.unusedSimpArgs false
theorem alive_asc {L : List Ls} (h : Asc L) (now : Int) : Asc (alive now L) := h.filter _
theorem toldT_asc {T : Tb} (h : Asc T.lea) (now : Int) : Asc (toldT T now).lea := by
  unfold toldT
  split
  · exact alive_asc h now
  · exact h
theorem toldT_len (T : Tb) (now : Int) : (toldT T now).lea.length ≤ T.lea.length ∧ (toldT T now).ses = T.ses ∧ (toldT T now).lf = T.lf ∧ (toldT T now).ls = T.ls := by
  unfold toldT
  split
  · exact ⟨alive_len _ _, rfl, rfl, rfl⟩
  · exact ⟨Nat.le_refl _, rfl, rfl, rfl⟩
theorem toldE_zero {T : Tb} {now : Int} (h : toldE T now = 0) : 0 ≤ now ∧ now ≤ 10378368000 ∧ T.now ≤ now := by
  unfold toldE at h
  split at h
  · cases h
  · split at h
    · cases h
    · omega
def takeL (U : Tb) (ses : Int) (reel : List UInt8) (now : Int) : List Ls := U.lea.take (fpos reel U.lea) ++ ⟨reel, ses, U.lf + 1, now + 600⟩ :: U.lea.drop (fpos reel U.lea)
def takeR (T : Tb) (now ses : Int) (reel : List UInt8) : Tb × Int × Int :=
  if toldE T now = 0 then
    (if ses ∈ (toldT T now).ses then
      (if nmB reel = true then
        (if fhas reel (toldT T now).lea = true then
          (if ((toldT T now).lea[fpos reel (toldT T now).lea]?.map Ls.ses) = some ses then (toldT T now, 0, 7) else (toldT T now, 0, 18))
        else (if 16 ≤ (toldT T now).lea.length then (toldT T now, 0, 9)
          else ({ toldT T now with lf := (toldT T now).lf + 1, lea := takeL (toldT T now) ses reel now }, (toldT T now).lf + 1, 0)))
      else (toldT T now, 0, 5))
    else (toldT T now, 0, 6))
  else (toldT T now, 0, toldE T now)
theorem fhas_some {L : List Ls} {reel : List UInt8} (h : fhas reel L = true) : ∃ x, L[fpos reel L]? = some x ∧ x.reel = reel := by
  unfold fhas at h
  split at h
  · rename_i x hx
    exact ⟨x, hx, of_decide_eq_true h⟩
  · cases h
set_option maxRecDepth 100000 in
set_option maxHeartbeats 2000000 in
theorem take_any (B p : Nat) (sv lv : Value) (T : Tb) (now ses : Int) (reel : List UInt8) (w : World) (h : Rep B p sv lv T w) (hasc : Asc T.lea) (hl : T.lea.length ≤ 1000) (hsl : T.ses.length ≤ 1000) (h0 : 0 ≤ T.lf) (h1 : T.lf ≤ 1000000000) :
    Calls Tryz.prog 21 #[.pointer (some ⟨p, 0, none⟩), .int .i64 now, .int .i64 ses, .string (sB reel)] w (Met B p sv lv w (.tuple #[.int .i64 (takeR T now ses reel).2.1, .int .i64 (takeR T now ses reel).2.2]) (takeR T now ses reel).1) := by
  have HTD := Lib.hid (told_any B p sv lv T now w h hl)
  have hBp := h.ge
  obtain ⟨hul, hus, huf, huz⟩ := toldT_len T now
  clear huz
  have HASC := Lib.hid (toldT_asc hasc now)
  have HE0 := Lib.hid (fun h => toldE_zero (T := T) (now := now) h)
  unfold takeR
  generalize toldE T now = E at *
  generalize toldT T now = U at *
  rw [← huf] at h0 h1
  rw [← hus] at hsl
  have hul2 : U.lea.length ≤ 1000 := by omega
  clear h hl hus huf hasc hul
  by_cases hE : E = 0
  · have t1 : (E != 0) = false := by simp [hE]
    obtain ⟨hn0, hn1, _⟩ := HE0.out hE
    rw [if_pos hE]
    clear hE HE0
    by_cases hm : ses ∈ U.ses
    · rw [if_pos hm]
      have HMEM := Lib.hid (show true = decide (ses ∈ U.ses) from (decide_eq_true hm).symm)
      clear hm
      by_cases hnm : nmB reel = true
      · rw [if_pos hnm]
        have HNM := Lib.hid (show nmB (sB reel).data.toList = true from hnm)
        clear hnm
        by_cases hh : fhas reel U.lea = true
        · rw [if_pos hh]
          have HHAS := Lib.hid hh
          obtain ⟨x, hx, hxr⟩ := fhas_some hh
          have hkl := (List.getElem?_eq_some_iff.1 hx).1
          rw [hx, Option.map_some]
          have hkl2 : (fpos reel U.lea : Int) < (U.lea.length : Int) := by omega
          obtain ⟨k, hk⟩ : ∃ k, fpos reel U.lea = k := ⟨_, rfl⟩
          have HPOS := Lib.hid hk
          rw [hk] at hx hkl hkl2
          have HX := Lib.hid hx
          clear hh hk hx hxr
          by_cases hs : x.ses = ses
          · rw [if_pos (by rw [hs])]
            have t2 : (x.ses == ses) = true := by simpa using hs
            clear hs
            go_enter Tryz.func21, Tryz.ntmps21
            go_wp2_with fail
            refine HTD.out.mono ?_
            clear HTD
            rintro e w1 ⟨rfl, sv1, lv1, h1, f1⟩
            have H1 := Lib.hid h1
            have F1 := Lib.hid f1
            have q := h1.block.cell
            have y := h1.block.free
            have hpw := h1.lt
            obtain ⟨SA, sc, rfl, hsr, hsc, hsm⟩ := ints_of_own h1.2.2.1
            obtain ⟨LA, lc, rfl, hlr, hlc, hlm, hfl⟩ := row_of_ownK h1.2.2.2
            have HSR := Lib.hid hsr
            have hlm' : lc ≤ 9223372036854775807 := by simpa [maxLen] using hlm
            clear hfl hlr hsr hsm hlm h1 f1
            go_wp2_with fail
            refine (contains_any SA sc U.ses ses _ HSR.out (by omega) HMEM.out).mono ?_
            rintro e w' ⟨rfl, rfl⟩
            go_wp2_with fail
            refine (name_any (sB reel) _).mono ?_
            rintro e w' ⟨rfl, rfl⟩
            rw [HNM.out]
            go_wp2_with fail
            refine (find_any B p _ _ U reel _ H1.out HASC.out (by omega)).mono ?_
            rintro e w2 ⟨rfl, hb⟩
            have H2 := Lib.hid (H1.out.ext hb)
            have F2 := Lib.hid (F1.out.ext hb (by omega))
            clear hb q y hpw H1 F1
            have q := H2.out.block.cell
            have y := H2.out.block.free
            have hpw := H2.out.lt
            rw [HPOS.out, HHAS.out]
            have HXA : LeasAt w2 LA U.lea := by
              obtain ⟨LA', lc', e', hr', _⟩ := row_of_ownK H2.out.2.2.2
              cases e'
              exact hr'
            obtain ⟨gx, ox, rfl⟩ := LeasAt.some HXA HX.out
            obtain ⟨x0, x1, x2, x3⟩ := LeasAt.get HXA HX.out
            clear HXA
            go_wp2_with fail
            go_ret2
            exact ⟨rfl, _, _, H2.out, F2.out⟩
          · rw [if_neg (by simpa using hs)]
            have t2 : (x.ses == ses) = false := by simpa using hs
            clear hs
            go_enter Tryz.func21, Tryz.ntmps21
            go_wp2_with fail
            refine HTD.out.mono ?_
            clear HTD
            rintro e w1 ⟨rfl, sv1, lv1, h1, f1⟩
            have H1 := Lib.hid h1
            have F1 := Lib.hid f1
            have q := h1.block.cell
            have y := h1.block.free
            have hpw := h1.lt
            obtain ⟨SA, sc, rfl, hsr, hsc, hsm⟩ := ints_of_own h1.2.2.1
            obtain ⟨LA, lc, rfl, hlr, hlc, hlm, hfl⟩ := row_of_ownK h1.2.2.2
            have HSR := Lib.hid hsr
            have hlm' : lc ≤ 9223372036854775807 := by simpa [maxLen] using hlm
            clear hfl hlr hsr hsm hlm h1 f1
            go_wp2_with fail
            refine (contains_any SA sc U.ses ses _ HSR.out (by omega) HMEM.out).mono ?_
            rintro e w' ⟨rfl, rfl⟩
            go_wp2_with fail
            refine (name_any (sB reel) _).mono ?_
            rintro e w' ⟨rfl, rfl⟩
            rw [HNM.out]
            go_wp2_with fail
            refine (find_any B p _ _ U reel _ H1.out HASC.out (by omega)).mono ?_
            rintro e w2 ⟨rfl, hb⟩
            have H2 := Lib.hid (H1.out.ext hb)
            have F2 := Lib.hid (F1.out.ext hb (by omega))
            clear hb q y hpw H1 F1
            have q := H2.out.block.cell
            have y := H2.out.block.free
            have hpw := H2.out.lt
            rw [HPOS.out, HHAS.out]
            have HXA : LeasAt w2 LA U.lea := by
              obtain ⟨LA', lc', e', hr', _⟩ := row_of_ownK H2.out.2.2.2
              cases e'
              exact hr'
            obtain ⟨gx, ox, rfl⟩ := LeasAt.some HXA HX.out
            obtain ⟨x0, x1, x2, x3⟩ := LeasAt.get HXA HX.out
            clear HXA
            go_wp2_with fail
            go_ret2
            exact ⟨rfl, _, _, H2.out, F2.out⟩
        · rw [if_neg hh]
          have HHAS := Lib.hid (show fhas reel U.lea = false by simpa using hh)
          obtain ⟨k, hk⟩ : ∃ k, fpos reel U.lea = k := ⟨_, rfl⟩
          have hkl : k ≤ U.lea.length := hk ▸ fpos_le reel U.lea
          have HPOS := Lib.hid hk
          clear hh
          by_cases hf : 16 ≤ U.lea.length
          · rw [if_pos hf]
            have hf2 : (16 : Int) ≤ (U.lea.length : Int) := by omega
            clear hk
            go_enter Tryz.func21, Tryz.ntmps21
            go_wp2_with fail
            refine HTD.out.mono ?_
            clear HTD
            rintro e w1 ⟨rfl, sv1, lv1, h1, f1⟩
            have H1 := Lib.hid h1
            have F1 := Lib.hid f1
            have q := h1.block.cell
            have y := h1.block.free
            have hpw := h1.lt
            obtain ⟨SA, sc, rfl, hsr, hsc, hsm⟩ := ints_of_own h1.2.2.1
            obtain ⟨LA, lc, rfl, hlr, hlc, hlm, hfl⟩ := row_of_ownK h1.2.2.2
            have HSR := Lib.hid hsr
            have hlm' : lc ≤ 9223372036854775807 := by simpa [maxLen] using hlm
            clear hfl hlr hsr hsm hlm h1 f1
            go_wp2_with fail
            refine (contains_any SA sc U.ses ses _ HSR.out (by omega) HMEM.out).mono ?_
            rintro e w' ⟨rfl, rfl⟩
            go_wp2_with fail
            refine (name_any (sB reel) _).mono ?_
            rintro e w' ⟨rfl, rfl⟩
            rw [HNM.out]
            go_wp2_with fail
            refine (find_any B p _ _ U reel _ H1.out HASC.out (by omega)).mono ?_
            rintro e w2 ⟨rfl, hb⟩
            have H2 := Lib.hid (H1.out.ext hb)
            have F2 := Lib.hid (F1.out.ext hb (by omega))
            clear hb q y hpw H1 F1
            have q := H2.out.block.cell
            have y := H2.out.block.free
            have hpw := H2.out.lt
            rw [HPOS.out, HHAS.out]
            go_wp2_with fail
            go_ret2
            exact ⟨rfl, _, _, H2.out, F2.out⟩
          · rw [if_neg hf]
            have hf2 : ¬ (16 : Int) ≤ (U.lea.length : Int) := by omega
            unfold takeL
            rw [hk]
            obtain ⟨M, hM⟩ : ∃ M : List Ls, M = U.lea.take k ++ ⟨reel, ses, U.lf + 1, now + 600⟩ :: U.lea.drop k := ⟨_, rfl⟩
            have hM0 : 0 < M.length := by rw [hM]; simp; omega
            rw [← hM]
            have HM := Lib.hid hM
            clear hk hM
            go_enter Tryz.func21, Tryz.ntmps21
            go_wp2_with fail
            refine HTD.out.mono ?_
            clear HTD
            rintro e w1 ⟨rfl, sv1, lv1, h1, f1⟩
            have H1 := Lib.hid h1
            have F1 := Lib.hid f1
            have q := h1.block.cell
            have y := h1.block.free
            have hpw := h1.lt
            obtain ⟨SA, sc, rfl, hsr, hsc, hsm⟩ := ints_of_own h1.2.2.1
            obtain ⟨LA, lc, rfl, hlr, hlc, hlm, hfl⟩ := row_of_ownK h1.2.2.2
            have HSR := Lib.hid hsr
            have hlm' : lc ≤ 9223372036854775807 := by simpa [maxLen] using hlm
            clear hfl hlr hsr hsm hlm h1 f1
            go_wp2_with fail
            refine (contains_any SA sc U.ses ses _ HSR.out (by omega) HMEM.out).mono ?_
            rintro e w' ⟨rfl, rfl⟩
            go_wp2_with fail
            refine (name_any (sB reel) _).mono ?_
            rintro e w' ⟨rfl, rfl⟩
            rw [HNM.out]
            go_wp2_with fail
            refine (find_any B p _ _ U reel _ H1.out HASC.out (by omega)).mono ?_
            rintro e w2 ⟨rfl, hb⟩
            have H2 := Lib.hid (H1.out.ext hb)
            have F2 := Lib.hid (F1.out.ext hb (by omega))
            clear hb q y hpw H1 F1
            have q := H2.out.block.cell
            have y := H2.out.block.free
            have hpw := H2.out.lt
            rw [HPOS.out, HHAS.out]

            go_wp2_with fail
            have H3 := Lib.hid (H2.out.setLf (U.lf + 1))
            have F3 := Lib.hid (F2.out.put hBp 2 (.int .i64 (U.lf + 1)))
            generalize World.setCell _ _ _ = w3 at *
            clear q y hpw H2 F2
            have q2 : w3.cell? ⟨p, 2, none⟩ = some (.int .i64 (U.lf + 1)) := H3.out.block.cell 2
            have q4 : w3.cell? ⟨p, 4, none⟩ = some (.slice LA U.lea.length lc) := H3.out.block.cell 4
            have y4 : w3.frozen? ⟨p, 4, none⟩ = false := H3.out.block.free 4
            have hpw := H3.out.lt
            have hBw : B ≤ w3.heap.size := by omega
            have HOW := Lib.hid H3.out.2.2.2
            have hne : (Value.slice LA U.lea.length lc).ownBlock ≠ some p := H3.out.nel
            have hne2 : (Value.slice LA U.lea.length lc).ownBlock ≠ some w3.heap.size := fun e => by have := (H3.out.2.2.2.lt _ e).2; omega
            have hw6 : IntKind.i64.wrap (now + 600) = now + 600 := by rw [IntKind.wrap_i64]; omega
            have HIN := Lib.hid (show ∀ (W : World), W.ownsRow B 49 4 (.slice LA U.lea.length lc) U.lea.length (U.lea.flatMap lsV) → W.heap[w3.heap.size]? = some (.cells (lsV ⟨reel, ses, U.lf + 1, now + 600⟩).toArray 49 (0, 0)) → B ≤ W.heap.size →
                Calls Tryz.prog 50 #[.slice LA U.lea.length lc, .int .i64 k, .slice (some ⟨w3.heap.size, 0, none⟩) 1 1] W (InsP B (.slice LA U.lea.length lc) M W) from fun W g1 g2 g3 => by
              rw [HM.out]
              exact insert_any B _ U.lea k ⟨reel, ses, U.lf + 1, now + 600⟩ w3.heap.size W g1 hkl (by omega) g2 g3 hne2)
            have hb : Below w3.heap.size w3 (w3.alloc (.cells #[.string (sB reel), .int .i64 ses, .int .i64 (U.lf + 1), .int .i64 (now + 600)] 49)).drew := (below_one _ _).drew
            have HB := Lib.hid hb
            clear hb
            go_region_law (go_simp; go_at_call 50; go_loud (refine (HIN.out _ ((HOW.out.alloc _).drew) (heap_at w3 _ rfl) (by simp; omega)).mono ?_); rintro e w4 ⟨v4, rfl, hown4, hgr4, hat4⟩; obtain ⟨gg, cap4, rfl, hgg, hgl⟩ := hown4.form hM0; have q5 : w4.cell? ⟨p, 4, none⟩ = some (.slice LA U.lea.length lc) := (hgr4.cell_far _ (by simp; omega) (Ne.symm hne)).trans ((World.cell?_alloc_past (w := w3) _ p 4 hpw).trans q4); have y5 : w4.frozen? ⟨p, 4, none⟩ = false := (hgr4.frozen_far _ (by simp; omega) (Ne.symm hne)).trans ((World.frozen?_alloc_past (w := w3) _ p 4 hpw).trans y4))
            all_goals
              have F4 := Lib.hid (((F3.out.ext HB.out hBw).grown hgr4 (by simp; omega) (own_base HOW.out) (.inr (.inl rfl))).newL (l2 := .slice (some ⟨gg, 0, none⟩) M.length cap4) (by
                intro g hg
                rcases hat4 g hg with h | h
                · exact .inl h
                · have e1 := F3.out.below.size
                  have e2 := HB.out.size
                  exact .inr (Nat.le_trans e1 (Nat.le_trans e2 h))))
              have H4 := Lib.hid (Rep.setL (T := { U with lf := U.lf + 1 }) (L := M) hBp ((hgr4.block p (by simp; omega) (Ne.symm hne)).trans ((HB.out.block p hpw).trans H3.out.2.1)) (own_same H3.out.2.2.1 (fun g hg => by
                have hg2 := (H3.out.2.2.1.lt g hg).2
                exact (hgr4.block g (by simp; omega) (fun e => H3.out.apart hg e.symm)).trans (HB.out.block g hg2))) hown4)
              have F5 := Lib.hid (F4.out.put hBp 4 (.slice (some ⟨gg, 0, none⟩) M.length cap4))
              generalize World.setCell w4 _ _ = w5 at *
              have q6 : w5.cell? ⟨p, 2, none⟩ = some (.int .i64 (U.lf + 1)) := H4.out.block.cell 2
              clear hgr4 hown4 F4 y5 q5 hat4
              go_wp2
              go_ret2
              exact ⟨rfl, _, _, H4.out, F5.out⟩
      · rw [if_neg hnm]
        have HNM := Lib.hid (show nmB (sB reel).data.toList = false from (show nmB reel = false by simpa using hnm))
        clear hnm
        go_enter Tryz.func21, Tryz.ntmps21
        go_wp2_with fail
        refine HTD.out.mono ?_
        clear HTD
        rintro e w1 ⟨rfl, sv1, lv1, h1, f1⟩
        have H1 := Lib.hid h1
        have F1 := Lib.hid f1
        have q := h1.block.cell
        have y := h1.block.free
        have hpw := h1.lt
        obtain ⟨SA, sc, rfl, hsr, hsc, hsm⟩ := ints_of_own h1.2.2.1
        obtain ⟨LA, lc, rfl, hlr, hlc, hlm, hfl⟩ := row_of_ownK h1.2.2.2
        have HSR := Lib.hid hsr
        have hlm' : lc ≤ 9223372036854775807 := by simpa [maxLen] using hlm
        clear hfl hlr hsr hsm hlm h1 f1
        go_wp2_with fail
        refine (contains_any SA sc U.ses ses _ HSR.out (by omega) HMEM.out).mono ?_
        rintro e w' ⟨rfl, rfl⟩
        go_wp2_with fail
        refine (name_any (sB reel) _).mono ?_
        rintro e w' ⟨rfl, rfl⟩
        rw [HNM.out]
        go_wp2_with fail
        go_ret2
        exact ⟨rfl, _, _, H1.out, F1.out⟩
    · rw [if_neg hm]
      have HMEM := Lib.hid (show false = decide (ses ∈ U.ses) from (decide_eq_false hm).symm)
      clear hm
      go_enter Tryz.func21, Tryz.ntmps21
      go_wp2_with fail
      refine HTD.out.mono ?_
      clear HTD
      rintro e w1 ⟨rfl, sv1, lv1, h1, f1⟩
      have H1 := Lib.hid h1
      have F1 := Lib.hid f1
      have q := h1.block.cell
      have y := h1.block.free
      have hpw := h1.lt
      obtain ⟨SA, sc, rfl, hsr, hsc, hsm⟩ := ints_of_own h1.2.2.1
      obtain ⟨LA, lc, rfl, hlr, hlc, hlm, hfl⟩ := row_of_ownK h1.2.2.2
      have HSR := Lib.hid hsr
      have hlm' : lc ≤ 9223372036854775807 := by simpa [maxLen] using hlm
      clear hfl hlr hsr hsm hlm h1 f1
      go_wp2_with fail
      refine (contains_any SA sc U.ses ses _ HSR.out (by omega) HMEM.out).mono ?_
      rintro e w' ⟨rfl, rfl⟩
      go_wp2_with fail
      go_ret2
      exact ⟨rfl, _, _, H1.out, F1.out⟩
  · have t1 : (E != 0) = true := by simp [hE]
    rw [if_neg hE]
    clear hE
    go_enter Tryz.func21, Tryz.ntmps21
    go_wp2_with fail
    refine HTD.out.mono ?_
    clear HTD
    rintro e w1 ⟨rfl, sv1, lv1, h1, f1⟩
    have H1 := Lib.hid h1
    have F1 := Lib.hid f1
    have q := h1.block.cell
    have y := h1.block.free
    have hpw := h1.lt
    obtain ⟨SA, sc, rfl, hsr, hsc, hsm⟩ := ints_of_own h1.2.2.1
    obtain ⟨LA, lc, rfl, hlr, hlc, hlm, hfl⟩ := row_of_ownK h1.2.2.2
    have HSR := Lib.hid hsr
    have hlm' : lc ≤ 9223372036854775807 := by simpa [maxLen] using hlm
    clear hfl hlr hsr hsm hlm h1 f1
    go_wp2_with fail
    go_ret2
    exact ⟨rfl, _, _, H1.out, F1.out⟩
end Go.Proofs.YtneiljaknmeagaaGreatDoor
