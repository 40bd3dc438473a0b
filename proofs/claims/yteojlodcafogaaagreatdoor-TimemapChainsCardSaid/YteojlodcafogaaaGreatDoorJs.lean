/-
  The contract of Inverse in the reference. Its conditions are its hypotheses.
-/
import Derived.Test.YteojlodcafogaaaGreatDoorJ3
namespace Go.Proofs.YteojlodcafogaaaGreatDoor
open Go.RowKit Go.Joins
set_option linter.unusedVariables false
set_option linter.unusedSimpArgs false
theorem dsj_take {L : List Pc} {kk : Nat} {y : Pc} (h : ∀ t q, t < kk → L[t]? = some q → DsjP (invO q) y) : ∀ q ∈ (invL L).take kk, DsjP q y := by
  intro q hq
  obtain ⟨t, ht, e⟩ := List.mem_iff_getElem.1 hq
  have ht2 : t < kk ∧ t < (invL L).length := by rw [List.length_take] at ht; omega
  have hl : t < L.length := by have := invL_len L; omega
  have e2 := inv_get (List.getElem?_eq_getElem hl)
  rw [List.getElem_take] at e
  rw [List.getElem?_eq_getElem ht2.2, e] at e2
  rw [Option.some.inj e2]
  exact h t _ ht2.1 (List.getElem?_eq_getElem hl)
theorem take_snoc {M : List Pc} {k : Nat} {y : Pc} (h : M[k]? = some y) : M.take (k + 1) = M.take k ++ [y] := by rw [List.take_add_one, h]; rfl
theorem dsj_of {x q : Pc} (hx : x.i < x.o) (hq : q.i < q.o) (h : ¬ max x.t q.t < min (x.t + x.o - x.i) (q.t + q.o - q.i)) : DsjP (invO q) (invO x) := by
  show q.t + q.o - q.i ≤ x.t ∨ x.t + x.o - x.i ≤ q.t
  omega
theorem dsj_no {x q : Pc} (h : max x.t q.t < min (x.t + x.o - x.i) (q.t + q.o - q.i)) : ¬ DsjP (invO q) (invO x) := by
  show ¬ (q.t + q.o - q.i ≤ x.t ∨ x.t + x.o - x.i ≤ q.t)
  omega
set_option maxRecDepth 100000 in
set_option maxHeartbeats 4000000 in
theorem inverser_any (A : Option Addr) (c : Nat) (L : List Pc) (w : World) (hs : PcAt w A L) (hf : Frp L) (hl : L.length ≤ 1000000) (hcp : L.length ≤ c) :
    Calls Tryz.prog 34 #[.slice A L.length c] w (RetM (invP L) w) := by
  have HS := Lib.hid hs
  have HC := Lib.hid (chkpr_any A c L w hs hf (by omega))
  have HPL := Lib.hid (fun W (h : PcAt W A L) => plainr_any A c L W h hl)
  obtain ⟨R, hR⟩ : ∃ R, R = invP L := ⟨_, rfl⟩
  have HR := Lib.hid hR
  unfold RetM
  obtain ⟨D, hD⟩ : ∃ D, D = w.heap.size := ⟨_, rfl⟩
  have HD := Lib.hid hD
  rw [← hR]
  rw [← hD] at HC ⊢
  clear hs hf hR hD
  by_cases h0 : chkP L = 0
  · have hl6 := (chkP_ok.1 h0).1
    have H0 := Lib.hid h0
    rw [h0] at HC
    cases hpl : plnB L with
    | false =>
      obtain rfl : R = ([], 3) := HR.out.trans (inv_fast h0 hpl)
      rw [hpl] at HPL
      clear h0 hpl
      go_enter Tryz.func34, Tryz.ntmps34
      go_wp2_with fail
      refine HC.out.mono ?_
      rintro e w1 ⟨rfl, hb⟩
      have G1 := Lib.hid hb
      have HS1 := Lib.hid (HS.out.ext (HD.out ▸ hb))
      have hs1 : D ≤ w1.heap.size := by have := hb.size; have := HD.out; omega
      clear hb HC
      go_wp2_with fail
      refine (HPL.out w1 HS1.out).mono ?_
      rintro e w2 ⟨rfl, hb⟩
      have G2 := Lib.hid (G1.out.trans (hb.mono hs1))
      clear hb HPL
      go_wp2_with fail
      go_ret2
      exact ⟨⟨_, rfl, World.ownsRow_nil _ _ _ _⟩, G2.out⟩
    | true =>
      have HP := Lib.hid hpl
      have HGD := Lib.hid (god_of h0 hpl).2
      have HIG := Lib.hid (inv_god (god_of h0 hpl).2)
      have HOV := Lib.hid (fun hd => HR.out.trans (inv_over h0 hpl hd))
      have HGO := Lib.hid (fun hd => HR.out.trans (inv_good h0 hpl hd))
      have HBD := Lib.hid (fun p hp => god_bd (HIG.out p hp))
      have HGT := Lib.hid (fun k x (h : L[k]? = some x) => inv_get h)
      have HTK := Lib.hid (fun kk y (h : ∀ t q, t < kk → L[t]? = some q → DsjP (invO q) y) => dsj_take h)
      have hML := invL_len L
      generalize invL L = M at *
      have HML := Lib.hid hML
      rw [hpl] at HPL
      obtain ⟨i0, hi, hz0, hz1, hz2⟩ := info_parts infoP
      have HI0 := Lib.hid (And.intro hi (And.intro hz0 (And.intro hz1 hz2)))
      clear h0 hpl hi hz0 hz1 hz2 hML
      go_enter Tryz.func34, Tryz.ntmps34
      go_wp2_with fail
      refine HC.out.mono ?_
      rintro e w1 ⟨rfl, hb⟩
      have G1 := Lib.hid hb
      have HS1 := Lib.hid (HS.out.ext (HD.out ▸ hb))
      have hs1 : D ≤ w1.heap.size := by have := hb.size; have := HD.out; omega
      clear hb HC
      go_wp2_with fail
      refine (HPL.out w1 HS1.out).mono ?_
      rintro e w2 ⟨rfl, hb⟩
      have G2 := Lib.hid (G1.out.trans (hb.mono hs1))
      clear hb HPL HS1 G1 hs1
      go_wp2_with fail
      go_loopw [5, 20] (fun ov i wr => ∃ (kk : Nat) (uv : Value), uv = ov ∧ kk ≤ L.length ∧ i = .int .i64 kk ∧ Hid (wr.ownsRow D 57 5 uv (M.take kk).length ((M.take kk).flatMap pcV)) ∧ Hid ((M.take kk).Pairwise DsjP) ∧ Hid (Below D w wr)) (fun _ i _ => L.length - (intOf i).toNat)
      case atStart => exact ⟨0, _, rfl, by omega, rfl, Lib.hid (World.ownsRow_nil _ _ _ _), Lib.hid List.Pairwise.nil, G2⟩
      case round =>
        obtain ⟨kk, uv, rfl, hkk, rfl, HO, HPW, G⟩ := hrel
        have hDw : D ≤ wr.heap.size := by have := G.out.size; have := HD.out; omega
        by_cases hltt : kk < L.length
        · have hltt2 : (kk : Int) < (L.length : Int) := by omega
          have hkc : kk ≤ c := by omega
          have hkc2 : (kk : Int) ≤ (c : Int) := by omega
          obtain ⟨x, hx⟩ : ∃ x, L[kk]? = some x := ⟨_, List.getElem?_eq_getElem hltt⟩
          obtain ⟨b1, b2, b3, b4, b5⟩ := god_in (HGD.out x (List.mem_of_getElem? hx))
          have HRw := HS.out.ext (HD.out ▸ G.out)
          obtain ⟨g, o, rfl⟩ := PcAt.some HRw hx
          obtain ⟨q0, q1, q2, q3, q4⟩ := PcAt.get HRw hx
          have HX := Lib.hid hx
          have HMX := Lib.hid (HGT.out kk x hx)
          clear HRw hx
          go_wp2_with fail
          generalize hw1 : World.alloc wr _ = w1
          have F1 := Lib.hid (show Held w1 wr.heap.size (pcV x) by subst hw1; exact Held.new rfl)
          have G1 := Lib.hid (show Below D w w1 by subst hw1; exact G.out.alloc hDw _)
          have HO1 := Lib.hid (show w1.ownsRow D 57 5 uv (M.take kk).length ((M.take kk).flatMap pcV) by subst hw1; exact HO.out.alloc _)
          have hX1 : wr.heap.size < w1.heap.size := F1.out.lt
          generalize wr.heap.size = X at *
          obtain ⟨N, hN⟩ : ∃ N, N = w1.heap.size := ⟨_, rfl⟩
          have HN := Lib.hid hN
          have hDN : D ≤ N := by omega
          have hXN : X < N := by omega
          have HLX := Lib.hid (HS.out.ext (HD.out ▸ G1.out))
          clear hw1 q0 q1 q2 q3 q4 HO G hN
          go_loopw [29] (fun i wr => ∃ j : Nat, j ≤ kk ∧ i = .int .i64 j ∧ Hid (∀ t q, t < j → L[t]? = some q → DsjP (invO q) (invO x)) ∧ Hid (Below N w1 wr)) (fun i _ => kk - (intOf i).toNat)
          case atStart => exact ⟨0, by omega, rfl, Lib.hid (fun t q ht _ => by omega), Lib.hid (HN.out ▸ Below.refl _ _)⟩
          case round =>
            obtain ⟨j, hj, rfl, HD2, G⟩ := hrel
            have hNw : N ≤ wr.heap.size := by have := G.out.size; have := HN.out; omega
            have F2 := Lib.hid (F1.out.ext (HN.out ▸ G.out))
            obtain ⟨z0, z1, z2, z3, z4⟩ := five_of F2.out
            have hXw : X < wr.heap.size := F2.out.lt
            by_cases hlt : j < kk
            · have hlt2 : (j : Int) < (kk : Int) := by omega
              obtain ⟨y, hy⟩ : ∃ x, L[j]? = some x := ⟨_, List.getElem?_eq_getElem (by omega)⟩
              obtain ⟨d1, d2, d3, d4, d5⟩ := god_in (HGD.out y (List.mem_of_getElem? hy))
              obtain ⟨q0, q1, q2, q3, q4⟩ := PcAt.get (HLX.out.ext (HN.out ▸ G.out)) hy
              have HY := Lib.hid hy
              have HMY := Lib.hid (HGT.out j y hy)
              clear hy
              by_cases hov : max x.t y.t < min (x.t + x.o - x.i) (y.t + y.o - y.i)
              · obtain rfl : R = ([], 14) := HOV.out (pair_bad HMX.out hlt HMY.out (dsj_no hov))
                go_wp2_with fail
                go_ret2
                exact ⟨⟨_, rfl, World.ownsRow_nil _ _ _ _⟩, G1.out.trans ((G.out.alloc hNw _).mono hDN)⟩
              · have HDY := Lib.hid (dsj_of b1 d1 hov)
                go_wp2_with fail
                go_roundw
                case rel => exact ⟨j + 1, by omega, by go_num, Lib.hid (fun t q ht hq => by
                  by_cases htj : t < j
                  · exact HD2.out t q htj hq
                  · obtain rfl : t = j := by omega
                    rw [HY.out] at hq
                    cases hq
                    exact HDY.out), Lib.hid (G.out.alloc hNw _)⟩
                case measure => simp [intOf]; omega
            · obtain rfl : j = kk := by omega
              have HPN := Lib.hid (pair_step HMX.out HPW.out (HTK.out j _ HD2.out))
              have HST := Lib.hid (take_snoc HMX.out)
              have HO2 := Lib.hid (ownsRow_below (B := N) HO1.out G.out (Nat.le_of_eq HN.out.symm))
              have GW := Lib.hid (G1.out.trans (G.out.mono hDN))
              have hm : (M.take j).length ≤ 64 := by rw [List.length_take]; omega
              have hDw2 : D ≤ wr.heap.size := by omega
              generalize M.take j = K at *
              clear hlt HD2 HO1
              go_wp2_with (at_builtin; go_loud (refine wpList_append_lies _ rfl _ _ 22 rfl D 57 i0 (.agg #[.int .i64 0, .int .i64 0, .int .i64 0, .int .i64 0, .int .i64 0]) 5 40 Tryz.underlying22 HI0.out.1 HI0.out.2.1 HI0.out.2.2.1 HI0.out.2.2.2 rfl (by decide) _ K.length (K.flatMap pcV) rfl (HO2.out.alloc _) ⟨wr.heap.size, 0, none⟩ 1 1 (pcV (invO x)) rfl rfl (CellsAt.all (by simp [CellsAt, go_sem, pcV, invO])) (by simp [Value.oneCell', pcV]) (by omega) (by simp only [maxLen]; omega) (by omega) (by simp; omega) _ rfl ?_))
              intro g' cap' w5 ho hgr hat hlt5
              have G5 := Lib.hid (show Below D w w5 from (GW.out.alloc hDw2 _).grown hgr (by simp; omega) (own_base HO2.out))
              have HO5 := Lib.hid (show w5.ownsRow D 57 5 (.slice (some ⟨g', 0, none⟩) (K.length + 1) cap') (K ++ [invO x]).length ((K ++ [invO x]).flatMap pcV) by
                rw [pflat_snoc, List.length_append]
                simpa using ho)
              rw [← HST.out] at HO5
              clear ho hgr hat hlt5 z0 z1 z2 z3 z4 HO2
              go_wp2_with fail
              go_roundw
              case rel => exact ⟨j + 1, _, rfl, by omega, by go_num, HO5, HPN, G5⟩
              case measure => simp [intOf]; omega
        · obtain rfl : kk = L.length := by omega
          have htl : M.take L.length = M := by rw [← HML.out, List.take_length]
          rw [htl] at HO HPW
          obtain rfl : R = (jonP M, 0) := HGO.out HPW.out
          obtain ⟨A5, c5, e5, hr5, _⟩ := own_formP HO.out
          subst e5
          have HJN := Lib.hid (joinedr_any A5 c5 M wr hr5 (by have := HML.out; omega) HBD.out)
          unfold NewM at HJN
          clear hltt htl hr5
          go_wp2_with fail
          refine HJN.out.mono ?_
          rintro e w5 ⟨⟨v, rfl, ho⟩, hb⟩
          have HO6 := Lib.hid (ownsRow_mono ho hDw)
          have G6 := Lib.hid (G.out.trans (hb.mono hDw))
          clear ho hb HJN
          go_wp2_with fail
          go_ret2
          exact ⟨⟨_, rfl, HO6.out⟩, G6.out⟩
  · obtain ⟨E, hE⟩ : ∃ E, E = chkP L := ⟨_, rfl⟩
    obtain rfl : R = ([], E) := by rw [HR.out, hE]; exact inv_bad h0
    rw [← hE] at HC h0
    have h0b : (E == 0) = false := by simpa using h0
    clear hE
    go_enter Tryz.func34, Tryz.ntmps34
    go_wp2_with fail
    refine HC.out.mono ?_
    rintro e w1 ⟨rfl, hb⟩
    have G1 := Lib.hid hb
    clear hb HC
    go_wp2_with fail
    go_ret2
    exact ⟨⟨_, rfl, World.ownsRow_nil _ _ _ _⟩, G1.out⟩
end Go.Proofs.YteojlodcafogaaaGreatDoor
