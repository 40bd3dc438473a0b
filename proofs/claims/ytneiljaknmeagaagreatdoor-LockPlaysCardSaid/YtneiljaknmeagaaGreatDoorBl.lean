/-
  Close and Sessions, comparisons. The conditions of the contracts are their hypotheses.
-/
import Derived.Test.YtneiljaknmeagaaGreatDoorRk
import Derived.Test.YtneiljaknmeagaaGreatDoorM5
import Derived.Test.YtneiljaknmeagaaGreatDoorBd
import Derived.Test.YtneiljaknmeagaaGreatDoorRa
namespace Go.Proofs.YtneiljaknmeagaaGreatDoor
open Go.RowKit Go.Joins
set_option linter.unusedVariables false
set_option linter.unusedSimpArgs false
theorem keepS_at {s : Int} {S : List Int} {k : Nat} (hk : S[k]? = some s) (hn : S.Nodup) : keepS s S = S.eraseIdx k := by
  have hkl := (List.getElem?_eq_some_iff.1 hk).1
  have hsp : S = S.take k ++ s :: S.drop (k + 1) := by
    have h := (List.take_append_drop k S).symm
    rw [List.drop_eq_getElem_cons hkl] at h
    have e : S[k] = s := (List.getElem?_eq_some_iff.1 hk).2
    rw [e] at h
    exact h
  rw [List.eraseIdx_eq_take_drop_succ]
  have hn2 : (S.take k ++ s :: S.drop (k + 1)).Nodup := by rw [← hsp]; exact hn
  have hp := List.nodup_append.1 hn2
  have hq := List.nodup_cons.1 hp.2.1
  have e : keepS s S = keepS s (S.take k ++ s :: S.drop (k + 1)) := by rw [← hsp]
  rw [e]
  unfold keepS
  rw [List.filter_append, List.filter_cons, if_neg (by simp)]
  congr 1
  · exact List.filter_eq_self.2 (fun x hx => decide_eq_true (fun e => hp.2.2 x hx s (by simp) e))
  · exact List.filter_eq_self.2 (fun x hx => decide_eq_true (fun e => hq.1 (e ▸ hx)))
theorem first_idx {s : Int} : ∀ {S : List Int}, s ∈ S → ∃ k, S[k]? = some s ∧ s ∉ S.take k
  | [], h => by cases h
  | a :: r, h => by
    by_cases e : a = s
    · exact ⟨0, by rw [e]; rfl, by simp⟩
    · obtain ⟨k, h1, h2⟩ := first_idx (S := r) (by rcases List.mem_cons.1 h with h | h; exact absurd h.symm e; exact h)
      exact ⟨k + 1, by simpa using h1, by simp [Ne.symm e, h2]⟩
theorem first_one {s : Int} {S : List Int} {j k : Nat} (h1 : S[j]? = some s) (h2 : s ∉ S.take j) (g1 : S[k]? = some s) (g2 : s ∉ S.take k) : j = k := by
  rcases Nat.lt_trichotomy j k with h | h | h
  · exact absurd (List.mem_of_getElem? (show (S.take k)[j]? = some s by rw [List.getElem?_take, if_pos h]; exact h1)) g2
  · exact h
  · exact absurd (List.mem_of_getElem? (show (S.take j)[k]? = some s by rw [List.getElem?_take, if_pos h]; exact g1)) h2
theorem FrT.near {B p : Nat} {sv lv s1 l1 l2 : Value} {w w1 w2 : World} (h : FrT B p sv lv w s1 l1 w1) (hb : Below B w1 w2) (hk : ∀ g, g < w1.heap.size → l1.ownBlock ≠ some g → w2.heap[g]? = w1.heap[g]?) (hn : ∀ g, l2.ownBlock = some g → l1.ownBlock = some g) : FrT B p sv lv w s1 l2 w2 := by
  refine ⟨h.below.trans hb, fun g hg hp hs hl => ?_, h.news, fun g hg => h.newl g (hn g hg)⟩
  refine (hk g (Nat.lt_of_lt_of_le hg h.below.size) (fun e => ?_)).trans (h.kept g hg hp hs hl)
  rcases h.newl g e with e' | e'
  · exact hl e'
  · omega
set_option maxRecDepth 100000 in
set_option maxHeartbeats 2000000 in
theorem close_any (B p : Nat) (sv lv : Value) (T : Tb) (now ses : Int) (w : World) (h : Rep B p sv lv T w) (hl : T.lea.length ≤ 1000) (hsl : T.ses.length ≤ 1000) (hnd : T.ses.Nodup) :
    Calls Tryz.prog 37 #[.pointer (some ⟨p, 0, none⟩), .int .i64 now, .int .i64 ses] w (Met B p sv lv w (.int .i64 (closeR T now ses).2) (closeR T now ses).1) := by
  obtain ⟨R, hR⟩ : ∃ R, R = (closeR T now ses).2 := ⟨_, rfl⟩
  obtain ⟨V, hV⟩ : ∃ V, V = (closeR T now ses).1 := ⟨_, rfl⟩
  have HR := Lib.hid hR
  have HV := Lib.hid hV
  rw [← hR, ← hV]
  unfold closeR at HR HV
  have HBw := Lib.hid (Nat.le_trans h.ge (Nat.le_of_lt h.lt))
  have hBp := h.ge
  obtain ⟨gs, hgs⟩ : ∃ gs, gs = w.heap.size := ⟨_, rfl⟩
  have H1 := Lib.hid (h.ext (below_one w (.cells #[.int .i64 ses] 2)))
  have HG1 := Lib.hid (show Held (w.alloc (.cells #[.int .i64 ses] 2)) gs [.int .i64 ses] from Held.new hgs)
  have HOU := Lib.hid (show Out p sv lv (w.alloc (.cells #[.int .i64 ses] 2)) gs from h.out_new (by omega) (by simp [hgs]))
  have HTD := Lib.hid (told_any B p sv lv T now _ H1.out hl)
  have F1 := Lib.hid ((FrT.refl B p sv lv w).ext (below_one w (.cells #[.int .i64 ses] 2)) HBw.out)
  obtain ⟨U, hU⟩ : ∃ U, U = toldT T now := ⟨_, rfl⟩
  obtain ⟨E0, hE0⟩ : ∃ E, E = toldE T now := ⟨_, rfl⟩
  have HUL := Lib.hid (show U.lea.length ≤ 1000 ∧ U.ses = T.ses by
    rw [hU]
    have := toldT_len T now
    exact ⟨by omega, this.2.1⟩)
  have HND := Lib.hid (show U.ses.Nodup by rw [HUL.out.2]; exact hnd)
  have HUS := Lib.hid (show U.ses.length ≤ 1000 by rw [HUL.out.2]; exact hsl)
  rw [← hU, ← hE0] at HTD HR HV
  clear h hl hsl hnd hR hV hU hE0
  go_enter Tryz.func37, Tryz.ntmps37
  go_wp2_with fail
  refine HTD.out.mono ?_
  clear HTD
  rintro e w2 ⟨rfl, s2, l2, h2, f2⟩
  have H2 := Lib.hid h2
  have F2 := Lib.hid (F1.out.trans f2)
  have HG2 := Lib.hid (f2.held HG1.out HOU.out)
  have HO2 := Lib.hid (f2.out HOU.out)
  rw [← hgs]
  clear h2 f2 hgs
  by_cases h0 : E0 = 0
  · rw [if_pos h0] at HR HV
    subst h0
    obtain ⟨SA, sc, rfl, hsr, hsc, hsm⟩ := ints_of_own H2.out.2.2.1
    obtain ⟨LA, lc, rfl, _, _, _⟩ := leas_of_own H2.out.2.2.2
    have HSR := Lib.hid hsr
    have hU1 : U.lea.length ≤ 1000 := HUL.out.1
    have hU2 : U.ses.length ≤ 1000 := HUS.out
    have q3 : w2.cell? ⟨p, 3, none⟩ = some (.slice SA U.ses.length sc) := H2.out.block.cell 3
    have qg : w2.cell? ⟨gs, 0, none⟩ = some (.int .i64 ses) := HG2.out.cell 0
    have hpw := H2.out.lt
    have hgw := HG2.out.lt
    clear hsr
    by_cases hin : ses ∈ U.ses
    · rw [if_pos hin] at HR HV
      obtain ⟨k, hk1, hk2⟩ := first_idx hin
      have HK := Lib.hid (show keepS ses U.ses = U.ses.eraseIdx k from keepS_at hk1 HND.out)
      have hkl := (List.getElem?_eq_some_iff.1 hk1).1
      have hkb : (k : Int) ≤ 1000 := by omega
      have hkn : ¬ (k : Int) < 0 := by omega
      have HK1 := Lib.hid (And.intro hk1 hk2)
      have HIX := Lib.hid (show ∀ W, IntsAt W SA U.ses → Calls Tryz.prog 62 #[.slice SA U.ses.length sc, .int .i64 ses] W (fun e w' => e = .returned (.int .i64 (k : Nat)) ∧ W = w') from fun W hW => by
        refine (index_any SA sc U.ses ses W hW (by omega)).mono ?_
        rintro e w' ⟨h, rfl⟩
        rcases h with ⟨j, g1, g2, rfl⟩ | ⟨g1, rfl⟩
        · rw [first_one g1 g2 HK1.out.1 HK1.out.2]; exact ⟨rfl, rfl⟩
        · exact absurd (List.mem_of_getElem? HK1.out.1) g1)
      clear hk1 hk2 hin
      go_wp2_with fail
      go_quiet (first | (go_at_call 62; exact Calls.quiet_of_same ((HIX.out _ (by first | exact HSR.out | exact IntsAt.drewN HSR.out _)).mono (by rintro e w' ⟨rfl, rfl⟩; exact ⟨rfl, rfl⟩))))
      generalize hw3 : w2.drewN _ = w3
      have HB3 := Lib.hid (show Below w2.heap.size w2 w3 by rw [← hw3]; exact below_drewN (Below.refl _ _) _)
      clear hw3 q3 qg hpw hgw
      have H3 := Lib.hid (H2.out.ext HB3.out)
      have F3 := Lib.hid (F2.out.ext HB3.out (by have := H2.out.lt; omega))
      have HG3 := Lib.hid (HG2.out.ext HB3.out)
      have HO3 := Lib.hid (show Out p (.slice SA U.ses.length sc) (.slice LA U.lea.length lc) w3 gs from ⟨Nat.lt_of_lt_of_le HO2.out.1 HB3.out.size, HO2.out.2⟩)
      have q := H3.out.block.cell
      have hpw := H3.out.lt
      go_wp2_with fail
      refine (delI_any B (.slice SA U.ses.length sc) U.ses k w3 H3.out.2.2.1 hkl hU2).mono ?_
      rintro e w4 ⟨v2, rfl, hown, hgr, hat⟩
      have hBw3 : B ≤ w3.heap.size := by have := H3.out.ge; omega
      have hp4 := (hgr.block p hpw (Ne.symm H3.out.nes)).trans H3.out.2.1
      have HG4 := Lib.hid (show Held w4 gs [.int .i64 ses] by
        obtain ⟨t, ht⟩ := HG3.out
        exact ⟨t, (hgr.block gs HO3.out.1 (fun e => HO3.out.2.2.1 e.symm)).trans ht⟩)
      have H4 := Lib.hid (Rep.setS (T := U) (S := U.ses.eraseIdx k) H3.out.1 hp4 hown (own_same H3.out.2.2.2 (fun g hg => hgr.block g (H3.out.2.2.2.lt g hg).2 (fun e => H3.out.apart e.symm hg))))
      have F4 := Lib.hid (((F3.out.grown hgr hBw3 (own_base H3.out.2.2.1) (.inl rfl)).newS (s2 := v2) (fun g hg => by
        rcases hat g hg with e | e
        · exact .inl e
        · exact .inr (Nat.le_trans F3.out.below.size e))).put hBp 3 v2)
      have HG5 := Lib.hid (HG4.out.other HO3.out.2.1 3 v2)
      have HO5 := Lib.hid (show (Value.slice LA U.lea.length lc).ownBlock ≠ some gs from HO3.out.2.2.2)
      have q2 : ∀ i, w4.cell? ⟨p, i, none⟩ = ([.int .i64 U.now, .int .i64 U.ls, .int .i64 U.lf, .slice SA U.ses.length sc, .slice LA U.lea.length lc] : List Value)[i]? := fun i => by rw [cell_of_block hp4 i]; simp
      have y2 : ∀ i, w4.frozen? ⟨p, i, none⟩ = false := fun i => unfrozen_of_block hp4 i
      have hpw4 : p < w4.heap.size := Nat.lt_of_lt_of_le hpw hgr.size
      obtain ⟨A4, c4, rfl, _⟩ := row_of_ownK hown
      clear hown hgr hat hp4 q
      go_wp2_with fail
      generalize hw5 : World.setCell _ _ _ = w5
      rw [hw5] at H4 F4 HG5
      clear hw5 q2 y2 hpw4
      refine (delf_any B gs (.slice LA U.lea.length lc) U.lea ses w5 H4.out.2.2.2 (HG5.out.cell 0) HO5.out hU1 (by have := H4.out.ge; have := H4.out.lt; omega)).mono ?_
      rintro e w6 ⟨v6, rfl, hown6, hb6, hk6, hn6⟩
      have hp6 := (hk6 p H4.out.lt (fun e => H4.out.nel e)).trans H4.out.2.1
      have H6 := Lib.hid (Rep.setL (T := { U with ses := U.ses.eraseIdx k }) (L := keepL ses U.lea) H4.out.1 hp6 (own_same H4.out.2.2.1 (fun g hg => hk6 g (H4.out.2.2.1.lt g hg).2 (H4.out.apart hg))) hown6)
      have F6 := Lib.hid ((F4.out.near hb6 hk6 hn6).put hBp 4 v6)
      have q6 : ∀ i, w6.cell? ⟨p, i, none⟩ = ([.int .i64 U.now, .int .i64 U.ls, .int .i64 U.lf, .slice A4 (U.ses.eraseIdx k).length c4, .slice LA U.lea.length lc] : List Value)[i]? := fun i => by rw [cell_of_block hp6 i]; simp
      have y6 : ∀ i, w6.frozen? ⟨p, i, none⟩ = false := fun i => unfrozen_of_block hp6 i
      have hpw6 : p < w6.heap.size := (Array.getElem?_eq_some_iff.1 hp6).1
      obtain ⟨A6, c6, rfl, _⟩ := row_of_ownK hown6
      clear hown6 hb6 hk6 hn6 hp6
      go_wp2_with fail
      go_ret
      rw [HR.out, HV.out, HK.out]
      exact ⟨rfl, _, _, H6.out, F6.out⟩
    · rw [if_neg hin] at HR HV
      have HNI := Lib.hid hin
      have HIX := Lib.hid (show ∀ W, IntsAt W SA U.ses → Calls Tryz.prog 62 #[.slice SA U.ses.length sc, .int .i64 ses] W (fun e w' => e = .returned (.int .i64 (-1)) ∧ W = w') from fun W hW => by
        refine (index_any SA sc U.ses ses W hW (by omega)).mono ?_
        rintro e w' ⟨h, rfl⟩
        rcases h with ⟨j, g1, g2, rfl⟩ | ⟨g1, rfl⟩
        · exact absurd (List.mem_of_getElem? g1) HNI.out
        · exact ⟨rfl, rfl⟩)
      clear hin
      go_wp2_with fail
      go_quiet (first | (go_at_call 62; exact Calls.quiet_of_same ((HIX.out _ (by first | exact HSR.out | exact IntsAt.drewN HSR.out _)).mono (by rintro e w' ⟨rfl, rfl⟩; exact ⟨rfl, rfl⟩))))
      generalize hw3 : w2.drewN _ = w3
      have HB3 := Lib.hid (show Below w2.heap.size w2 w3 by rw [← hw3]; exact below_drewN (Below.refl _ _) _)
      clear hw3 q3 qg hpw hgw
      go_wp2_with fail
      go_ret
      rw [HR.out, HV.out]
      exact ⟨rfl, _, _, H2.out.ext HB3.out, F2.out.ext HB3.out (by have := H2.out.lt; omega)⟩
  · rw [if_neg h0] at HR HV
    have t0 : (E0 != 0) = true := by simpa using h0
    clear h0
    go_wp2_with fail
    go_ret
    rw [HR.out, HV.out]
    exact ⟨rfl, _, _, H2.out, F2.out⟩
end Go.Proofs.YtneiljaknmeagaaGreatDoor
namespace Go.Proofs.YtneiljaknmeagaaGreatDoor
open Go.RowKit Go.Joins
set_option linter.unusedVariables false
set_option linter.unusedSimpArgs false
set_option maxRecDepth 100000 in
theorem cloneI_any (B0 D : Nat) (v : Value) (L : List Int) (w : World) (hown : w.ownsRow B0 2 1 v L.length (L.map (Value.int .i64))) (hl : L.length ≤ 1000) (hD : D ≤ w.heap.size) :
    Calls Tryz.prog 45 #[v] w fun e w' => ∃ v', e = .returned v' ∧ w'.ownsRow D 2 1 v' L.length (L.map (Value.int .i64)) ∧ Below w.heap.size w w' := by
  obtain ⟨i0, hi, hz0, hz1, hz2⟩ := info_parts infoI
  have HI0 := Lib.hid (And.intro hi (And.intro hz0 (And.intro hz1 hz2)))
  have HO := Lib.hid hown
  have q22 : ∀ (w : World) (a : Option Addr) (n c n' c' : Nat), (binOp .eql 27 (.slice a n c) (.slice none n' c')).run Tryz.prog w = .ok (.bool a.isNone) w := fun w a n c n' c' => Lib.run_eql_slice_nil w _ _ a n c n' c' Tryz.underlying27
  clear hi hz0 hz1 hz2
  rcases hown.2 with ⟨rfl, h0⟩ | ⟨g, cap, cur, rfl, hgB, hg, hnc, hcm, _, _⟩
  · have hL : L = [] := List.eq_nil_of_length_eq_zero h0
    subst hL
    clear hown h0 hl
    go_enter Tryz.func45, Tryz.ntmps45
    go_wp2_with fail
    go_ret
    exact ⟨_, rfl, World.ownsRow_nil _ _ _ _, Below.refl _ _⟩
  · have HN := Lib.hid (show ∀ j u, (L.map (Value.int .i64))[j]? = some u → (w.alloc (.cells #[] 2)).cell? ((⟨g, 0, none⟩ : Addr).add j) = some u from fun j u hj => by
      have := hown.cells (g := g) rfl j u hj
      have hlt := World.block_lt_of_cell? w _ this
      rw [← this]
      exact (below_one w (.cells #[] 2)).cell hlt)
    have HL := Lib.hid (show (L.map (Value.int .i64)).length = L.length * 1 by simp)
    have HONE := Lib.hid (show ∀ u ∈ L.map (Value.int .i64), u.oneCell' = true by intro u hu; obtain ⟨n, _, rfl⟩ := List.mem_map.1 hu; rfl)
    clear hown hcm hnc hg hgB
    go_enter Tryz.func45, Tryz.ntmps45
    go_wp2_with (at_builtin; go_loud (refine wpList_append_own _ rfl _ _ 27 rfl w.heap.size 2 i0 (.int .i64 0) 1 8 Tryz.underlying27 HI0.out.1 HI0.out.2.1 HI0.out.2.2.1 HI0.out.2.2.2 rfl (by decide) (.slice (some ⟨w.heap.size, 0, none⟩) 0 0) 0 [] rfl (World.ownsRow_made w #[] 0 (Nat.le_refl _) (by simp) rfl) ⟨g, 0, none⟩ L.length cap (L.map (Value.int .i64)) rfl HL.out HN.out HONE.out (by simp only [maxLen]; omega) (by omega) (by simp) ?_))
    intro o' w5 ho hgr _
    have HO5 := Lib.hid (show w5.ownsRow D 2 1 o' L.length (L.map (Value.int .i64)) by
      have := ownsRow_mono ho hD
      simpa using this)
    have G5 := Lib.hid (show Below w.heap.size w w5 from (below_one w (.cells #[] 2)).grown hgr (by simp) (fun k hk => by cases hk; exact Nat.le_refl _))
    clear ho hgr
    go_wp2_with fail
    go_ret
    exact ⟨_, rfl, HO5.out, G5.out⟩
theorem sessions_any (B p D : Nat) (sv lv : Value) (T : Tb) (w : World) (h : Rep B p sv lv T w) (hl : T.ses.length ≤ 1000) (hD : D ≤ w.heap.size) :
    Calls Tryz.prog 13 #[.pointer (some ⟨p, 0, none⟩)] w fun e w' => ∃ v, e = .returned v ∧ w'.ownsRow D 2 1 v T.ses.length (T.ses.map (Value.int .i64)) ∧ Below w.heap.size w w' := by
  have H := Lib.hid h
  have q := h.block.cell
  have hpw := h.lt
  have HCL := Lib.hid (cloneI_any B D sv T.ses w h.2.2.1 hl hD)
  obtain ⟨SA, sc, rfl, _⟩ := ints_of_own h.2.2.1
  clear h
  go_enter Tryz.func13, Tryz.ntmps13
  go_wp2_with fail
  refine HCL.out.mono ?_
  rintro e w1 ⟨v, rfl, ho, hb⟩
  have HO := Lib.hid ho
  have G := Lib.hid hb
  clear ho hb q
  go_wp2_with fail
  go_ret
  exact ⟨_, rfl, HO.out, G.out⟩
set_option maxHeartbeats 1000000 in
theorem numbers_same (A1 A2 : Option Addr) (c1 c2 : Nat) (S : List Int) (w : World) (h1 : IntsAt w A1 S) (h2 : IntsAt w A2 S) (hl : S.length ≤ 1000) :
    Calls Tryz.prog 12 #[.slice A1 S.length c1, .slice A2 S.length c2] w fun e w' => e = .returned (.bool true) ∧ Below w.heap.size w w' := by
  have H1 := Lib.hid h1
  have H2 := Lib.hid h2
  have t0 : ((S.length : Int) != (S.length : Int)) = false := by simp
  clear h1 h2
  go_enter Tryz.func12, Tryz.ntmps12
  go_wp2_with fail
  go_loopw [13] (fun i wr => ∃ k : Nat, k ≤ S.length ∧ i = .int .i64 k ∧ Hid (Below w.heap.size w wr)) (fun i _ => S.length - (intOf i).toNat)
  case atStart => exact ⟨0, by omega, rfl, Lib.hid (Below.refl _ _)⟩
  case round =>
    obtain ⟨k, hk, rfl, G⟩ := hrel
    by_cases hlt : k < S.length
    · have hlt2 : (k : Int) < (S.length : Int) := by omega
      obtain ⟨n, hn⟩ : ∃ n, S[k]? = some n := ⟨_, List.getElem?_eq_getElem hlt⟩
      obtain ⟨g1, o1, rfl, c0⟩ := (H1.out.below G.out (Nat.le_refl _)) k (.int .i64 n) (by rw [List.getElem?_map, hn]; rfl)
      obtain ⟨g2, o2, rfl, d0⟩ := (H2.out.below G.out (Nat.le_refl _)) k (.int .i64 n) (by rw [List.getElem?_map, hn]; rfl)
      have t1 : (n != n) = false := by simp
      clear hn
      go_wp2_with fail
      go_quiet (fail)
      all_goals
        go_wp2_with fail
        go_roundw
        case rel => exact ⟨k + 1, by omega, by go_num, Lib.hid (below_drewN G.out _)⟩
        case measure => simp [intOf]; omega
    · obtain rfl : k = S.length := by omega
      clear hlt
      go_wp2_with fail
      go_ret
      exact ⟨rfl, G.out⟩
set_option maxHeartbeats 1000000 in
theorem leases_same (A1 A2 : Option Addr) (c1 c2 : Nat) (L : List Ls) (w : World) (h1 : LeasAt w A1 L) (h2 : LeasAt w A2 L) (hl : L.length ≤ 1000) :
    Calls Tryz.prog 15 #[.slice A1 L.length c1, .slice A2 L.length c2] w fun e w' => e = .returned (.bool true) ∧ Below w.heap.size w w' := by
  have H1 := Lib.hid h1
  have H2 := Lib.hid h2
  clear h1 h2
  go_enter Tryz.func15, Tryz.ntmps15
  go_wp2_with fail
  go_loopw [13] (fun i wr => ∃ k : Nat, k ≤ L.length ∧ i = .int .i64 k ∧ Hid (Below w.heap.size w wr)) (fun i _ => L.length - (intOf i).toNat)
  case atStart => exact ⟨0, by omega, rfl, Lib.hid (Below.refl _ _)⟩
  case round =>
    obtain ⟨k, hk, rfl, G⟩ := hrel
    by_cases hlt : k < L.length
    · have hlt2 : (k : Int) < (L.length : Int) := by omega
      obtain ⟨x, hx⟩ : ∃ x, L[k]? = some x := ⟨_, List.getElem?_eq_getElem hlt⟩
      have K1 : LeasAt wr A1 L := RowAt.below H1.out G.out (Nat.le_refl _)
      have K2 : LeasAt wr A2 L := RowAt.below H2.out G.out (Nat.le_refl _)
      obtain ⟨g1, o1, rfl⟩ := LeasAt.some K1 hx
      obtain ⟨g2, o2, rfl⟩ := LeasAt.some K2 hx
      obtain ⟨p0, p1, p2, p3⟩ := LeasAt.get K1 hx
      obtain ⟨q0, q1, q2, q3⟩ := LeasAt.get K2 hx
      clear hx K1 K2
      go_wp2_with fail
      go_quiet (fail)
      all_goals
        go_wp2_with fail
        go_roundw
        case rel => exact ⟨k + 1, by omega, by go_num, Lib.hid (below_drewN G.out _)⟩
        case measure => simp [intOf]; omega
    · obtain rfl : k = L.length := by omega
      clear hlt
      go_wp2_with fail
      go_ret
      exact ⟨rfl, G.out⟩
end Go.Proofs.YtneiljaknmeagaaGreatDoor
