/-
  The contracts of Inverse, in the program and in the reference. Their conditions are their hypotheses.
-/
import Derived.Test.YteojlodcafogaaaGreatDoorJr
namespace Go.Proofs.YteojlodcafogaaaGreatDoor
open Go.RowKit Go.Joins
set_option linter.unusedVariables false
set_option linter.unusedSimpArgs false
theorem inv_bad {L : List Pc} (h : chkP L ≠ 0) : invP L = ([], chkP L) := by unfold invP; rw [if_neg h]
theorem inv_fast {L : List Pc} (h : chkP L = 0) (hp : plnB L = false) : invP L = ([], 3) := by unfold invP; rw [if_pos h, if_neg (by rw [hp]; decide)]
theorem inv_over {L : List Pc} (h : chkP L = 0) (hp : plnB L = true) (hd : ¬ (invL L).Pairwise DsjP) : invP L = ([], 14) := by unfold invP; rw [if_pos h, if_pos hp, if_neg hd]
theorem inv_good {L : List Pc} (h : chkP L = 0) (hp : plnB L = true) (hd : (invL L).Pairwise DsjP) : invP L = (jonP (invL L), 0) := by unfold invP; rw [if_pos h, if_pos hp, if_pos hd]
theorem god_pos {p : Pc} (h : GodP p) : p.i < p.o := (sgl_ok.1 h.1).1
theorem god_in {p : Pc} (h : GodP p) : p.i < p.o ∧ 0 ≤ p.i ∧ p.o ≤ 5184000 ∧ 0 ≤ p.t ∧ p.t + (p.o - p.i) ≤ 5184000 := (god_iff h.2).1 h.1
set_option maxRecDepth 100000 in
set_option maxHeartbeats 4000000 in
theorem inverse_any (A : Option Addr) (c : Nat) (L : List Pc) (w : World) (hs : PcAt w A L) (hf : Frp L) (hl : L.length ≤ 1000000) :
    Calls Tryz.prog 33 #[.slice A L.length c] w (RetM (invP L) w) := by
  have HS := Lib.hid hs
  have HC := Lib.hid (chkp_any A c L w hs hf (by omega))
  have HPL := Lib.hid (fun W (h : PcAt W A L) => plain_any A c L W h hl)
  obtain ⟨R, hR⟩ : ∃ R, R = invP L := ⟨_, rfl⟩
  have HR := Lib.hid hR
  unfold RetM
  obtain ⟨D, hD⟩ : ∃ D, D = w.heap.size := ⟨_, rfl⟩
  have HD := Lib.hid hD
  rw [← hR]
  rw [← hD] at HC ⊢
  clear hs hf hR hD
  by_cases h0 : chkP L = 0
  · have hl6 := (chkP_ok.1 h0).1
    have H0 := Lib.hid h0
    rw [h0] at HC
    cases hpl : plnB L with
    | false =>
      obtain rfl : R = ([], 3) := HR.out.trans (inv_fast h0 hpl)
      rw [hpl] at HPL
      clear h0 hpl
      go_enter Tryz.func33, Tryz.ntmps33
      go_wp2_with fail
      refine HC.out.mono ?_
      rintro e w1 ⟨rfl, hb⟩
      have G1 := Lib.hid hb
      have HS1 := Lib.hid (HS.out.ext (HD.out ▸ hb))
      have hs1 : D ≤ w1.heap.size := by have := hb.size; have := HD.out; omega
      clear hb HC
      go_wp2_with fail
      refine (HPL.out w1 HS1.out).mono ?_
      rintro e w2 ⟨rfl, hb⟩
      have G2 := Lib.hid (G1.out.trans (hb.mono hs1))
      clear hb HPL
      go_wp2_with fail
      go_ret2
      exact ⟨⟨_, rfl, World.ownsRow_nil _ _ _ _⟩, G2.out⟩
    | true =>
      have HP := Lib.hid hpl
      have HGD := Lib.hid (god_of h0 hpl).2
      have HIG := Lib.hid (inv_god (god_of h0 hpl).2)
      rw [hpl] at HPL
      obtain ⟨i0, hi, hz0, hz1, hz2⟩ := info_parts infoP
      have HI0 := Lib.hid (And.intro hi (And.intro hz0 (And.intro hz1 hz2)))
      clear h0 hpl hi hz0 hz1 hz2
      go_enter Tryz.func33, Tryz.ntmps33
      go_wp2_with fail
      refine HC.out.mono ?_
      rintro e w1 ⟨rfl, hb⟩
      have G1 := Lib.hid hb
      have HS1 := Lib.hid (HS.out.ext (HD.out ▸ hb))
      have hs1 : D ≤ w1.heap.size := by have := hb.size; have := HD.out; omega
      clear hb HC
      go_wp2_with fail
      refine (HPL.out w1 HS1.out).mono ?_
      rintro e w2 ⟨rfl, hb⟩
      have G2 := Lib.hid (G1.out.trans (hb.mono hs1))
      clear hb HPL HS1 G1 hs1
      go_wp2_with fail
      go_loopw [5, 19] (fun ov i wr => ∃ k : Nat, k ≤ L.length ∧ i = .int .i64 k ∧ Hid (wr.ownsRow D 57 5 ov (invL (L.take k)).length ((invL (L.take k)).flatMap pcV)) ∧ Hid (Below D w wr)) (fun _ i _ => L.length - (intOf i).toNat)
      case atStart => exact ⟨0, by omega, rfl, Lib.hid (World.ownsRow_nil _ _ _ _), G2⟩
      case round =>
        obtain ⟨k, hk, rfl, HO, G⟩ := hrel
        have hDw : D ≤ wr.heap.size := by have := G.out.size; have := HD.out; omega
        by_cases hlt : k < L.length
        · have hlt2 : (k : Int) < (L.length : Int) := by omega
          obtain ⟨x, hx⟩ : ∃ x, L[k]? = some x := ⟨_, List.getElem?_eq_getElem hlt⟩
          obtain ⟨b1, b2, b3, b4, b5⟩ := god_in (HGD.out x (List.mem_of_getElem? hx))
          have HRw := HS.out.ext (HD.out ▸ G.out)
          obtain ⟨g, o, rfl⟩ := PcAt.some HRw hx
          obtain ⟨q0, q1, q2, q3, q4⟩ := PcAt.get HRw hx
          have HST := Lib.hid (invL_step hx)
          have hm : (invL (L.take k)).length ≤ 64 := by rw [invL_len, List.length_take]; omega
          generalize invL (L.take k) = M at *
          clear HRw hx
          go_wp2_with (at_builtin; go_loud (refine wpList_append_lies _ rfl _ _ 22 rfl D 57 i0 (.agg #[.int .i64 0, .int .i64 0, .int .i64 0, .int .i64 0, .int .i64 0]) 5 40 Tryz.underlying22 HI0.out.1 HI0.out.2.1 HI0.out.2.2.1 HI0.out.2.2.2 rfl (by decide) _ M.length (M.flatMap pcV) rfl ((HO.out.alloc _).alloc _) ⟨wr.heap.size + 1, 0, none⟩ 1 1 (pcV (invO x)) rfl rfl (CellsAt.all (by simp [CellsAt, go_sem, pcV, invO])) (by simp [Value.oneCell', pcV]) (by omega) (by simp only [maxLen]; omega) (by omega) (by simp; omega) _ rfl ?_))
          intro g' cap' w5 ho hgr hat hlt5
          have G5 := Lib.hid (show Below D w w5 from ((G.out.alloc hDw _).alloc (by simp; omega) _).grown hgr (by simp; omega) (own_base HO.out))
          have HO5 := Lib.hid (show w5.ownsRow D 57 5 (.slice (some ⟨g', 0, none⟩) (M.length + 1) cap') (M ++ [invO x]).length ((M ++ [invO x]).flatMap pcV) by
            rw [pflat_snoc, List.length_append]
            simpa using ho)
          rw [← HST.out] at HO5
          clear ho hgr hat hlt5 q0 q1 q2 q3 q4
          go_wp2_with fail
          go_roundw
          case rel => exact ⟨k + 1, by omega, by go_num, HO5, G5⟩
          case measure => simp [intOf]; omega
        · obtain rfl : k = L.length := by omega
          rw [List.take_length] at HO
          have hil : (invL L).length ≤ 64 := by rw [invL_len]; omega
          have HPOS := Lib.hid (fun p hp => god_pos (HIG.out p hp))
          have HBD := Lib.hid (fun p hp => god_bd (HIG.out p hp))
          have HOV := Lib.hid (fun hd => HR.out.trans (inv_over H0.out HP.out hd))
          have HGO := Lib.hid (fun hd => HR.out.trans (inv_good H0.out HP.out hd))
          generalize invL L = M at *
          clear hlt
          generalize wr = w3 at *
          obtain ⟨A5, c5, e5, _⟩ := own_formP HO.out
          subst e5
          have HSO := Lib.hid (sortAllp_any _ cmpV D _ M w3 HO.out (by omega))
          clear HO
          go_wp2_with fail
          refine HSO.out.mono ?_
          rintro e w4 ⟨rfl, ys, hp, hst, ho, hb⟩
          have hly : ys.length = M.length := hp.length_eq
          rw [hly] at ho
          have G4 := Lib.hid (G.out.trans hb)
          have HPE := Lib.hid hp
          have HAS := Lib.hid hst
          have HO4 := Lib.hid ho
          obtain ⟨A6, c6, e6, hr6, _⟩ := row_of_ownK ho
          injection e6 with e61 e62 e63
          subst e61 e63
          have HR6 := Lib.hid (show PcAt w4 A5 ys from hr6)
          have hlm : (M.length : Int) = (ys.length : Int) := by omega
          have hD4 : D ≤ w4.heap.size := by have := G4.out.size; have := HD.out; omega
          obtain ⟨N, hN⟩ : ∃ N, N = w4.heap.size := ⟨_, rfl⟩
          have HN := Lib.hid hN
          rw [← hly] at hil HO4
          generalize hnn : M.length = n at *
          subst hly
          have HML := Lib.hid hnn
          clear hp hst ho hb hr6 HSO e62 hlm hN hDw hnn G
          go_wp2_with fail
          go_loopw [8] (fun i wr => ∃ j : Nat, i = .int .i64 ((j + 1 : Nat) : Int) ∧ (j + 1 ≤ ys.length ∨ j = 0) ∧ Hid (AdjP ys (j + 1)) ∧ Hid (Below N w4 wr)) (fun i _ => ys.length + 1 - (intOf i).toNat)
          case atStart => exact ⟨0, rfl, .inr rfl, Lib.hid (fun j p q hj _ _ => by omega), Lib.hid (HN.out ▸ Below.refl _ _)⟩
          case round =>
            obtain ⟨j, rfl, hj, HA, G⟩ := hrel
            have hNw : D ≤ wr.heap.size := by have := G.out.size; have := HN.out; omega
            have GW := Lib.hid (G4.out.trans (G.out.mono (by have := HN.out; omega)))
            by_cases hlt : j + 1 < ys.length
            · obtain ⟨p, hp⟩ : ∃ x, ys[j]? = some x := ⟨_, List.getElem?_eq_getElem (by omega)⟩
              obtain ⟨q, hq⟩ : ∃ x, ys[j + 1]? = some x := ⟨_, List.getElem?_eq_getElem hlt⟩
              have HRw := HR6.out.ext (HN.out ▸ G.out)
              obtain ⟨g, o, rfl⟩ := PcAt.some HRw hp
              obtain ⟨_, q1, _, _, _⟩ := PcAt.get HRw hp
              obtain ⟨r0, _, _, _, _⟩ := PcAt.get HRw hq
              have HBP := Lib.hid hp
              have HBQ := Lib.hid hq
              obtain ⟨m, hm⟩ : ∃ m, m = j + 1 := ⟨_, rfl⟩
              have hm1 : (m : Int) < (ys.length : Int) := by omega
              have hm2 : IntKind.i64.wrap ((m : Int) - 1) = (j : Int) := by rw [IntKind.wrap_i64]; omega
              have hm3 : (j : Int) < (ys.length : Int) := by omega
              have hm4 : (0 : Int) ≤ (j : Int) := by omega
              have hm5 : m ≤ 100 := by omega
              have hm6 : 1 ≤ m := by omega
              have HM := Lib.hid hm
              rw [← hm] at r0 ⊢
              clear HRw hp hq hm
              by_cases hov : q.i < p.o
              · obtain rfl : R = ([], 14) := HOV.out (adj_bad HPE.out HPOS.out HAS.out HBP.out HBQ.out hov)
                go_wp2_with fail
                go_quiet (fail)
                go_wp2_with fail
                go_ret2
                exact ⟨⟨_, rfl, World.ownsRow_nil _ _ _ _⟩, below_drewN GW.out _⟩
              · have hov2 : p.o ≤ q.i := by omega
                go_wp2_with fail
                go_quiet (fail)
                go_wp2_with fail
                go_roundw
                case rel => exact ⟨m, by go_num, .inl (by omega), Lib.hid (by
                  intro t a b ht ha hb
                  by_cases htj : t + 1 < m
                  · exact HA.out t a b (by have := HM.out; omega) ha hb
                  · have e : t = j := by have := HM.out; omega
                    subst e
                    rw [HBP.out] at ha
                    rw [HBQ.out] at hb
                    cases ha
                    cases hb
                    exact hov2), Lib.hid (below_drewN G.out _)⟩
                case measure => simp [intOf]; omega
            · have hle : ys.length ≤ j + 1 := by omega
              have HAD := Lib.hid (show M.Pairwise DsjP from adj_good HPE.out HPOS.out (fun t a b ht ha hb => HA.out t a b (by omega) ha hb))
              obtain rfl : R = (jonP M, 0) := HGO.out HAD.out
              have HRw := Lib.hid (HR6.out.ext (HN.out ▸ G.out))
              have HJN := Lib.hid (joined_any A5 c5 ys wr HRw.out (by omega) (perm_bd HPE.out HBD.out))
              unfold JonP at HJN
              obtain ⟨m, hm⟩ : ∃ m, m = j + 1 := ⟨_, rfl⟩
              have hm1 : (ys.length : Int) ≤ (m : Int) := by omega
              rw [← hm]
              clear hle hm hlt
              go_wp2_with fail
              refine HJN.out.mono ?_
              rintro e w5 ⟨⟨v, zs, rfl, hz, hza, ho⟩, hb⟩
              rw [jon_of HPOS.out HAD.out (hz.trans HPE.out) hza] at ho
              have HO6 := Lib.hid (ownsRow_mono ho hNw)
              have G6 := Lib.hid (GW.out.trans (hb.mono hNw))
              clear ho hb hz hza HJN
              go_wp2_with fail
              go_ret2
              exact ⟨⟨_, rfl, HO6.out⟩, G6.out⟩
  · obtain ⟨E, hE⟩ : ∃ E, E = chkP L := ⟨_, rfl⟩
    obtain rfl : R = ([], E) := by rw [HR.out, hE]; exact inv_bad h0
    rw [← hE] at HC h0
    have h0b : (E == 0) = false := by simpa using h0
    clear hE
    go_enter Tryz.func33, Tryz.ntmps33
    go_wp2_with fail
    refine HC.out.mono ?_
    rintro e w1 ⟨rfl, hb⟩
    have G1 := Lib.hid hb
    clear hb HC
    go_wp2_with fail
    go_ret2
    exact ⟨⟨_, rfl, World.ownsRow_nil _ _ _ _⟩, G1.out⟩
end Go.Proofs.YteojlodcafogaaaGreatDoor
