/-
  Leases and Open. The conditions of the contracts are their hypotheses.
-/
import Derived.Test.YtneiljaknmeagaaGreatDoorBc
import Derived.Deep.RegionLaw
import Derived.Deep.AppendLies
import Derived.Deep.RegionHeld3
import Derived.BigRegion
namespace Go.Proofs.YtneiljaknmeagaaGreatDoor
open Go.RowKit Go.Joins
set_option linter.unusedVariables false
set_option linter.unusedSimpArgs false
def alive (now : Int) (L : List Ls) : List Ls := L.filter fun x => decide (now < x.unt)
theorem alive_len (now : Int) (L : List Ls) : (alive now L).length ≤ L.length := List.length_filter_le _ _
theorem alive_step {now : Int} {L : List Ls} {k : Nat} {x : Ls} (hk : L[k]? = some x) : alive now (L.take (k + 1)) = alive now (L.take k) ++ (if now < x.unt then [x] else []) := by
  unfold alive
  rw [List.take_add_one, hk, List.filter_append]
  congr 1
  simp only [Option.toList_some, List.filter_cons, List.filter_nil]
  by_cases h : now < x.unt <;> simp [h]
def LeasP (L : List Ls) (W : World) (e : Ending) (w' : World) : Prop := (∃ v, e = .returned v ∧ w'.ownsRow W.heap.size 49 4 v L.length (L.flatMap lsV)) ∧ Below W.heap.size W w'
set_option maxHeartbeats 1000000 in
theorem leases_any (B p : Nat) (sv lv : Value) (T : Tb) (now : Int) (w : World) (h : Rep B p sv lv T w) (hl : T.lea.length ≤ 1000) :
    Calls Tryz.prog 16 #[.pointer (some ⟨p, 0, none⟩), .int .i64 now] w (LeasP (alive now T.lea) w) := by
  obtain ⟨i0, hi, hz0, hz1, hz2⟩ := info_parts infoL
  have HI0 := Lib.hid (And.intro hi (And.intro hz0 (And.intro hz1 hz2)))
  clear hi hz0 hz1 hz2
  have H := Lib.hid h
  have q := h.block.cell
  have y := h.block.free
  have hpw := h.block.lt
  obtain ⟨A, c, rfl, hr, hnc, hcm, hfl⟩ := row_of_ownK h.2.2.2
  clear hfl
  have HR := Lib.hid hr
  generalize T.lea = L at *
  have hcm' : c ≤ 9223372036854775807 := by simpa [maxLen] using hcm
  obtain ⟨D, hD⟩ : ∃ D, D = w.heap.size := ⟨_, rfl⟩
  have HD := Lib.hid hD
  unfold LeasP
  rw [← hD]
  clear h hr hD hcm
  go_enter Tryz.func16, Tryz.ntmps16
  go_wp2_with fail
  clear q y hpw
  go_loopw [5, 15] (fun o i wr => ∃ (k : Nat) (ov : Value), ov = o ∧ k ≤ L.length ∧ i = .int .i64 k ∧ Hid (wr.ownsRow D 49 4 ov (alive now (L.take k)).length ((alive now (L.take k)).flatMap lsV)) ∧ Hid (Below D w wr)) (fun _ i _ => L.length - (intOf i).toNat)
  case atStart => exact ⟨0, _, rfl, by omega, rfl, Lib.hid (World.ownsRow_nil _ _ _ _), Lib.hid (Below.refl _ _)⟩
  case round =>
    obtain ⟨k, ov, rfl, hk, rfl, HO, G⟩ := hrel
    have hDw : D ≤ wr.heap.size := by have := G.out.size; have := HD.out; omega
    by_cases hlt : k < L.length
    · have hlt2 : (k : Int) < (L.length : Int) := by omega
      obtain ⟨x, hx⟩ : ∃ x, L[k]? = some x := ⟨_, List.getElem?_eq_getElem hlt⟩
      have HX := Lib.hid hx
      have HRw := HR.out.below (HD.out ▸ G.out) (Nat.le_refl _)
      obtain ⟨g, o, rfl⟩ := LeasAt.some HRw hx
      obtain ⟨q0, q1, q2, q3⟩ := LeasAt.get HRw hx
      have HL := Lib.hid (alive_len now (L.take k))
      have HT := Lib.hid (List.length_take_le k L)
      clear HRw hx
      by_cases ht : now < x.unt
      · have HS := Lib.hid (show alive now (L.take (k + 1)) = alive now (L.take k) ++ [x] by rw [alive_step HX.out, if_pos ht])
        have hb1 : (alive now (L.take k)).length ≤ 1000 := by have := HL.out; have := HT.out; omega
        generalize alive now (L.take k) = M at *
        go_wp2_with (at_builtin; go_loud (refine wpList_append_own _ rfl _ _ 28 rfl D 49 i0 (.agg #[.string ⟨#[]⟩, .int .i64 0, .int .i64 0, .int .i64 0]) 4 40 Tryz.underlying28 HI0.out.1 HI0.out.2.1 HI0.out.2.2.1 HI0.out.2.2.2 rfl (by decide) ov M.length (M.flatMap lsV) rfl ((HO.out.alloc _).alloc _) ⟨wr.heap.size + 1, 0, none⟩ 1 1 (lsV x) rfl rfl (CellsAt.all (by simp [CellsAt, go_sem, lsV])) (by simp [Value.oneCell', lsV]) (by simp only [maxLen]; omega) (by omega) (by simp; omega) ?_))
        intro o' w5 ho hgr _
        have G5 := Lib.hid (show Below D w w5 from (((G.out.alloc hDw _).alloc (by simp; omega) _).grown hgr (by simp; omega) (own_base HO.out)))
        have HO5 := Lib.hid (show w5.ownsRow D 49 4 o' (M ++ [x]).length ((M ++ [x]).flatMap lsV) by
          rw [List.flatMap_append, List.length_append]
          simpa using ho)
        rw [← HS.out] at HO5
        clear ho hgr
        go_wp2_with fail
        go_roundw
        case rel => exact ⟨k + 1, _, rfl, by omega, by go_num, HO5, G5⟩
        case measure => simp [intOf]; omega
      · have HS := Lib.hid (show alive now (L.take (k + 1)) = alive now (L.take k) by rw [alive_step HX.out, if_neg ht, List.append_nil])
        go_wp2_with fail
        rw [← HS.out] at HO
        go_roundw
        case rel => exact ⟨k + 1, _, rfl, by omega, by go_num, Lib.hid (HO.out.alloc _), Lib.hid (G.out.alloc hDw _)⟩
        case measure => simp [intOf]; omega
    · obtain rfl : k = L.length := by omega
      rw [List.take_length] at HO
      clear hlt
      go_wp2_with fail
      go_ret
      exact ⟨⟨_, rfl, HO.out⟩, G.out⟩
def toldE (T : Tb) (now : Int) : Int := if now < 0 ∨ 10378368000 < now then 2 else if now < T.now then 8 else 0
def toldT (T : Tb) (now : Int) : Tb := if toldE T now = 0 then { T with now := now, lea := alive now T.lea } else T
theorem told_any (B p : Nat) (sv lv : Value) (T : Tb) (now : Int) (w : World) (h : Rep B p sv lv T w) (hl : T.lea.length ≤ 1000) :
    Calls Tryz.prog 47 #[.pointer (some ⟨p, 0, none⟩), .int .i64 now] w (Met B p sv lv w (.int .i64 (toldE T now)) (toldT T now)) := by
  have H := Lib.hid h
  have HL := Lib.hid hl
  have q := h.block.cell
  have y := h.block.free
  have hpw := h.lt
  have hBp := h.ge
  clear h hl
  by_cases h1 : now < 0
  · rw [show toldT T now = T by simp [toldT, toldE, h1], show toldE T now = 2 by simp [toldE, h1]]
    go_enter Tryz.func47, Tryz.ntmps47
    go_wp2_with fail
    go_ret
    exact ⟨rfl, _, _, H.out, FrT.refl _ _ _ _ _⟩
  · by_cases h2 : 10378368000 < now
    · rw [show toldT T now = T by simp [toldT, toldE, h2], show toldE T now = 2 by simp [toldE, h2]]
      go_enter Tryz.func47, Tryz.ntmps47
      go_wp2_with fail
      go_ret
      exact ⟨rfl, _, _, H.out, FrT.refl _ _ _ _ _⟩
    · by_cases h3 : now < T.now
      · rw [show toldT T now = T by simp [toldT, toldE, h1, h2, h3], show toldE T now = 8 by simp [toldE, h1, h2, h3]]
        go_enter Tryz.func47, Tryz.ntmps47
        go_wp2_with fail
        go_ret
        exact ⟨rfl, _, _, H.out, FrT.refl _ _ _ _ _⟩
      · rw [show toldT T now = { T with now := now, lea := alive now T.lea } by simp [toldT, toldE, h1, h2, h3], show toldE T now = 0 by simp [toldE, h1, h2, h3]]
        go_enter Tryz.func47, Tryz.ntmps47
        go_wp2_with fail
        have H1 := Lib.hid (H.out.setNow now)
        have F1 := Lib.hid ((FrT.refl B p sv lv w).put hBp 0 (.int .i64 now))
        generalize World.setCell _ _ _ = w1 at *
        clear q y hpw
        refine (leases_any B p sv lv _ now w1 H1.out HL.out).mono ?_
        rintro e w2 ⟨⟨v, rfl, hv⟩, hb⟩
        have hpz := H1.out.lt
        have H2 := Lib.hid (H1.out.ext hb)
        have F2 := Lib.hid (F1.out.ext hb (by omega))
        have HV := Lib.hid hv
        have HN := Lib.hid (show ∀ g, v.ownBlock = some g → lv.ownBlock = some g ∨ w.heap.size ≤ g from fun g hg => .inr (by have := (hv.lt g hg).1; have := F1.out.below.size; omega))
        have HZ := Lib.hid (show w2.ownsRow B 49 4 v (alive now T.lea).length ((alive now T.lea).flatMap lsV) from ownsRow_mono hv (by omega))
        obtain ⟨A, c, rfl, _⟩ := row_of_ownK hv
        clear hv hb H1 F1
        have q := H2.out.block.cell
        have y := H2.out.block.free
        have hpw := H2.out.lt
        go_wp2_with fail
        go_ret
        exact ⟨rfl, _, _, Rep.setL H2.out.1 H2.out.2.1 H2.out.2.2.1 HZ.out, (F2.out.newL HN.out).put hBp _ _⟩
end Go.Proofs.YtneiljaknmeagaaGreatDoor
namespace Go.Proofs.YtneiljaknmeagaaGreatDoor
open Go.RowKit Go.Joins
set_option linter.unusedVariables false
set_option linter.unusedSimpArgs false
def tb0 : Tb := ⟨0, 0, 0, [], []⟩
theorem new_any (w : World) :
    Calls Tryz.prog 10 #[] w fun e w' => e = .returned (.pointer (some ⟨w.heap.size, 0, none⟩)) ∧ Rep w.heap.size w.heap.size (.slice none 0 0) (.slice none 0 0) tb0 w' ∧ Below w.heap.size w w' ∧ w'.heap.size = w.heap.size + 1 := by
  go_enter Tryz.func10, Tryz.ntmps10
  go_wp2_with fail
  go_ret
  exact ⟨rfl, ⟨Nat.le_refl _, heap_at w _ rfl, World.ownsRow_nil _ _ _ _, World.ownsRow_nil _ _ _ _⟩, below_one _ _, by simp⟩
def openR (T : Tb) (now : Int) : Tb × Int × Int :=
  if toldE T now = 0 then (if 8 ≤ (toldT T now).ses.length then (toldT T now, 0, 9) else ({ toldT T now with ls := (toldT T now).ls + 1, ses := (toldT T now).ses ++ [(toldT T now).ls + 1] }, (toldT T now).ls + 1, 0))
  else (toldT T now, 0, toldE T now)
def rcp (p : Nat) (o : Nat) : Addr := ⟨p, o, none⟩
set_option maxHeartbeats 1000000 in
theorem open_any (B p : Nat) (sv lv : Value) (T : Tb) (now : Int) (w : World) (h : Rep B p sv lv T w) (hl : T.lea.length ≤ 1000) (h0 : 0 ≤ T.ls) (h1 : T.ls ≤ 1000000000) :
    Calls Tryz.prog 20 #[.pointer (some ⟨p, 0, none⟩), .int .i64 now] w (Met B p sv lv w (.tuple #[.int .i64 (openR T now).2.1, .int .i64 (openR T now).2.2]) (openR T now).1) := by
  have HTD := Lib.hid (told_any B p sv lv T now w h hl)
  have hBp := h.ge
  have hls : 0 ≤ (toldT T now).ls ∧ (toldT T now).ls ≤ 1000000000 := by unfold toldT; split <;> exact ⟨h0, h1⟩
  unfold openR
  generalize toldE T now = E at *
  generalize toldT T now = U at *
  clear h0 h1 h hl
  obtain ⟨hls0, hls1⟩ := hls
  by_cases hE : E = 0
  · have t1 : (E != 0) = false := by simp [hE]
    rw [if_pos hE]
    by_cases h8 : 8 ≤ U.ses.length
    · have h8' : 8 ≤ (U.ses.length : Int) := by omega
      rw [if_pos h8]
      clear hE
      go_enter Tryz.func20, Tryz.ntmps20
      go_wp2_with fail
      refine HTD.out.mono ?_
      clear HTD
      rintro e w1 ⟨rfl, sv1, lv1, h1, f1⟩
      have H1 := Lib.hid h1
      have F1 := Lib.hid f1
      have q := h1.block.cell
      have y := h1.block.free
      have hpw := h1.lt
      obtain ⟨A, c, rfl, hr, hnc, hcm, hfl⟩ := row_of_ownK h1.2.2.1
      have HOS := Lib.hid h1.2.2.1
      have hcm' : c ≤ 9223372036854775807 := by simpa [maxLen] using hcm
      clear hfl hr hcm
      clear h1 f1
      go_wp2_with fail
      go_ret2
      exact ⟨rfl, _, _, H1.out, F1.out⟩
    · have h8' : ¬ 8 ≤ (U.ses.length : Int) := by omega
      rw [if_neg h8]
      clear hE
      go_enter Tryz.func20, Tryz.ntmps20
      go_wp2_with fail
      refine HTD.out.mono ?_
      clear HTD
      rintro e w1 ⟨rfl, sv1, lv1, h1, f1⟩
      have H1 := Lib.hid h1
      have F1 := Lib.hid f1
      have q := h1.block.cell
      have y := h1.block.free
      have hpw := h1.lt
      obtain ⟨A, c, rfl, hr, hnc, hcm, hfl⟩ := row_of_ownK h1.2.2.1
      have HOS := Lib.hid h1.2.2.1
      have hcm' : c ≤ 9223372036854775807 := by simpa [maxLen] using hcm
      clear hfl hr hcm
      clear h1 f1
      go_wp2_with fail
      have H2 := Lib.hid (H1.out.setLs (U.ls + 1))
      have F2 := Lib.hid (F1.out.put hBp 1 (.int .i64 (U.ls + 1)))
      generalize World.setCell _ _ _ = w2 at *
      have q1 : w2.cell? ⟨p, 1, none⟩ = some (.int .i64 (U.ls + 1)) := H2.out.block.cell 1
      have q3 : w2.cell? ⟨p, 3, none⟩ = some (.slice A U.ses.length c) := H2.out.block.cell 3
      have y3 : w2.frozen? ⟨p, 3, none⟩ = false := H2.out.block.free 3
      have hpw2 := H2.out.lt
      have hBw : B ≤ w2.heap.size := by omega
      have HOW := Lib.hid H2.out.2.2.1
      have hne : (Value.slice A U.ses.length c).ownBlock ≠ some p := H2.out.nes
      obtain ⟨i0, hi, hz0, hz1, hz2⟩ := info_parts infoI
      clear q y H1 F1 HOS
      go_region_law
        ((refine step_append_lies _ (by rfl) _ _ _ (by rfl) B 2 i0 _ 1 8 Tryz.underlying27 hi hz0 hz1 hz2 rfl (by omega) (.slice A U.ses.length c) U.ses.length (U.ses.map (Value.int .i64)) (by rfl) ((HOW.out.alloc _).drew)
              ⟨w2.heap.size, 0, none⟩ 1 1 [.int .i64 (U.ls + 1)] (by rfl) (by rfl) (World.news_of_block (cs := #[.int .i64 (U.ls + 1)]) (t := 2) (fr := (0, 0)) (heap_alloc_new w2 _)) (by simp [Value.oneCell'])
              (by omega) (by simp only [maxLen]; omega) (by omega) (by simp; omega) (w2.heap.size + 1) (by simp) ?_; intro gg cap w3 hown3 hgrow hat hlt; have y4 : w3.frozen? ⟨p, 3, none⟩ = false := (hgrow.frozen_far _ (by simp; omega) (Ne.symm hne)).trans ((World.frozen?_alloc_past (w := w2) _ p 3 hpw2).trans y3); have q4 : w3.cell? ⟨p, 3, none⟩ = some (.slice A U.ses.length c) := (hgrow.cell_far _ (by simp; omega) (Ne.symm hne)).trans ((World.cell?_alloc_past (w := w2) _ p 3 hpw2).trans q3)))
      all_goals
        have hb : Below w2.heap.size w2 (w2.alloc (.cells #[.int .i64 (U.ls + 1)] 2)).drew := (below_one _ _).drew
        have F3 := Lib.hid (((F2.out.ext hb hBw).grown hgrow (by simp; omega) (own_base HOW.out) (.inl rfl)).newS (s2 := .slice (some ⟨gg, 0, none⟩) (U.ses.length + 1) cap) (by
          intro g hg
          cases hg
          rcases hat with h | h
          · exact .inl h
          · have := F2.out.below.size
            exact .inr (show w.heap.size ≤ gg by omega)))
        have H3 := Lib.hid (Rep.setS (T := { U with ls := U.ls + 1 }) (S := U.ses ++ [U.ls + 1]) hBp ((hgrow.block p (by simp; omega) (Ne.symm hne)).trans ((hb.block p hpw2).trans H2.out.2.1)) (by
          rw [List.map_append, List.length_append]
          exact hown3) (own_same H2.out.2.2.2 (fun g hg => by
            have hg2 := (H2.out.2.2.2.lt g hg).2
            exact (hgrow.block g (by simp; omega) (fun e => H2.out.apart e.symm hg)).trans (hb.block g hg2))))
        have F4 := Lib.hid (F3.out.put hBp 3 (.slice (some ⟨gg, 0, none⟩) (U.ses.length + 1) cap))
        generalize World.setCell w3 _ _ = w4 at *
        have q1 : w4.cell? ⟨p, 1, none⟩ = some (.int .i64 (U.ls + 1)) := H3.out.block.cell 1
        clear hgrow hown3 hb F3 y4 q4
        go_wp2
        go_ret2
        exact ⟨rfl, _, _, H3.out, F4.out⟩
  · have t1 : (E != 0) = true := by simp [hE]
    rw [if_neg hE]
    clear hE
    go_enter Tryz.func20, Tryz.ntmps20
    go_wp2_with fail
    refine HTD.out.mono ?_
    clear HTD
    rintro e w1 ⟨rfl, sv1, lv1, h1, f1⟩
    have H1 := Lib.hid h1
    have F1 := Lib.hid f1
    have q := h1.block.cell
    have y := h1.block.free
    have hpw := h1.lt
    obtain ⟨A, c, rfl, hr, hnc, hcm, hfl⟩ := row_of_ownK h1.2.2.1
    have HOS := Lib.hid h1.2.2.1
    have hcm' : c ≤ 9223372036854775807 := by simpa [maxLen] using hcm
    clear hfl hr hcm
    clear h1 f1
    go_wp2_with fail
    go_ret2
    exact ⟨rfl, _, _, H1.out, F1.out⟩
end Go.Proofs.YtneiljaknmeagaaGreatDoor
