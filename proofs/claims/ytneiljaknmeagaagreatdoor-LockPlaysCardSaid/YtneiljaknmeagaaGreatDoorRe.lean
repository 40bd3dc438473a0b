/-
  The contract of Close in the reference. Its conditions are its hypotheses.
-/
import Derived.Test.YtneiljaknmeagaaGreatDoorBi
namespace Go.Proofs.YtneiljaknmeagaaGreatDoor
open Go.RowKit Go.Joins
set_option linter.unusedVariables false
set_option linter.unusedSimpArgs false
/-- The sessions and the leases that Close leaves. -/
def keepS (ses : Int) (S : List Int) : List Int := S.filter fun n => decide (n ≠ ses)
def keepL (ses : Int) (L : List Ls) : List Ls := L.filter fun x => decide (x.ses ≠ ses)
theorem keepS_step {ses : Int} {S : List Int} {k : Nat} {n : Int} (hk : S[k]? = some n) : keepS ses (S.take (k + 1)) = keepS ses (S.take k) ++ (if n ≠ ses then [n] else []) := by
  unfold keepS
  rw [List.take_add_one, hk, List.filter_append]
  congr 1
  by_cases h : n = ses <;> simp [h]
theorem keepL_step {ses : Int} {L : List Ls} {k : Nat} {x : Ls} (hk : L[k]? = some x) : keepL ses (L.take (k + 1)) = keepL ses (L.take k) ++ (if x.ses ≠ ses then [x] else []) := by
  unfold keepL
  rw [List.take_add_one, hk, List.filter_append]
  congr 1
  by_cases h : x.ses = ses <;> simp [h]
def closeR (T : Tb) (now ses : Int) : Tb × Int :=
  if toldE T now = 0 then (if ses ∈ (toldT T now).ses then ({ toldT T now with ses := keepS ses (toldT T now).ses, lea := keepL ses (toldT T now).lea }, 0) else (toldT T now, 6))
  else (toldT T now, toldE T now)
set_option maxRecDepth 100000 in
set_option maxHeartbeats 2000000 in
theorem closer_any (N : Nat → Prop) (T : Tb) (sv lv : Value) (now ses : Int) (w : World) (h : RefN N T sv lv w) (hN : ∀ b, N b → b < w.heap.size) (hl : T.lea.length ≤ 1000) (hsl : T.ses.length ≤ 1000) :
    Calls Tryz.prog 38 #[refV T sv lv, .int .i64 now, .int .i64 ses] w (RM1 N w (closeR T now ses).1 (.int .i64 (closeR T now ses).2)) := by
  obtain ⟨i0, hi, hz0, hz1, hz2⟩ := info_parts infoL
  have HI0 := Lib.hid (And.intro hi (And.intro hz0 (And.intro hz1 hz2)))
  clear hi hz0 hz1 hz2
  obtain ⟨j0, hi, hz0, hz1, hz2⟩ := info_parts infoI
  have HJ0 := Lib.hid (And.intro hi (And.intro hz0 (And.intro hz1 hz2)))
  clear hi hz0 hz1 hz2
  obtain ⟨R, hR⟩ : ∃ R, R = (closeR T now ses).2 := ⟨_, rfl⟩
  obtain ⟨V, hV⟩ : ∃ V, V = (closeR T now ses).1 := ⟨_, rfl⟩
  have HR := Lib.hid hR
  have HV := Lib.hid hV
  rw [← hR, ← hV]
  unfold closeR at HR HV
  clear hR hV
  have HTD := Lib.hid (fun M W hW hM => toldr_any M T sv lv now W hW hM hl)
  have H := Lib.hid h
  obtain ⟨D, hD⟩ : ∃ D, D = w.heap.size := ⟨_, rfl⟩
  have HD := Lib.hid hD
  have HN := Lib.hid (hD ▸ hN)
  obtain ⟨U, hU⟩ : ∃ U, U = toldT T now := ⟨_, rfl⟩
  obtain ⟨E0, hE0⟩ : ∃ E, E = toldE T now := ⟨_, rfl⟩
  have HU := Lib.hid hU
  have HE0 := Lib.hid hE0
  have HUL := Lib.hid (show U.lea.length ≤ 1000 ∧ U.ses = T.ses ∧ U.lf = T.lf ∧ U.ls = T.ls by
    rw [hU]
    have := toldT_len T now
    exact ⟨by omega, this.2⟩)
  have HUS := Lib.hid (show U.ses.length ≤ 1000 by rw [HUL.out.2.1]; exact hsl)
  rw [← hU, ← hE0] at HR HV
  clear hsl
  unfold RM1
  rw [← hD]
  rw [← hU, ← hE0] at HTD
  obtain ⟨⟨SA, sc, rfl, _⟩, A, c, rfl, _⟩ := h
  clear hU hE0 hN hl
  go_enter Tryz.func38, Tryz.ntmps38
  go_wp2_with fail
  rw [← hD]
  generalize hw2 : World.alloc _ _ = w2
  have X2 := Lib.hid (show RBox D w [.int .i64 T.now, .int .i64 T.ls, .int .i64 T.lf, .slice SA T.ses.length sc, .slice A T.lea.length c] [.int .i64 0, .int .i64 0, .int .i64 0, .slice none 0 0, .slice none 0 0] w2 by rw [← hw2]; exact RBox.start hD)
  have N2 := Lib.hid (H.out.box HD.out X2.out.bel)
  clear hw2 hD
  refine (HTD.out (NX N D) w2 N2.out (NX.lt X2.out HN.out)).mono ?_
  rintro e w3 ⟨⟨su, lu, rfl, hn3⟩, hb⟩
  have X3 := Lib.hid (X2.out.ext hb)
  have N3 := Lib.hid hn3
  have hM3 := NX.lt X3.out HN.out
  have HM3 := Lib.hid hM3
  obtain ⟨⟨SB, sb, rfl, _, hsb, hsm, _⟩, LB, lb, rfl, _, hlb, hlm, _⟩ := hn3
  clear hb N2 X2 HTD hM3
  have q := X3.out.box.cell
  have y := X3.out.box.free
  have q1 := X3.out.res.cell
  have y1 := X3.out.res.free
  have hlt := X3.out.lt
  by_cases h0 : E0 = 0
  · rw [if_pos h0] at HR HV
    subst h0
    have HIS := Lib.hid (fun (b : Bool) (hb : b = decide (ses ∈ U.ses)) W (hW : RefT U (.slice SB U.ses.length sb) (.slice LB U.lea.length lb) W) => by
      obtain ⟨⟨A', c', e', h'⟩, _⟩ := hW
      cases e'
      exact is_any U SB sb (.slice LB U.lea.length lb) ses W h' (by have := HUS.out; omega) hb)
    go_wp2_with fail
    generalize hw4 : World.setCell _ _ _ = w4
    have X4 := Lib.hid (show RBox D w [Value.int .i64 U.now, Value.int .i64 U.ls, Value.int .i64 U.lf, Value.slice SB U.ses.length sb, Value.slice LB U.lea.length lb] _ w4 by rw [← hw4]; exact (((((X3.out.setB 0 _).setB 1 _).setB 2 _).setB 3 _).setB 4 _))
    have N4 := Lib.hid (show RefN (NX N D) U _ _ w4 by rw [← hw4]; exact (((((N3.out.putB 0 _).putB 1 _).putB 2 _).putB 3 _).putB 4 _))
    have HM4 := Lib.hid (NX.lt X4.out HN.out)
    clear hw4 q y q1 y1 hlt
    by_cases hin : ses ∈ U.ses
    · rw [if_pos hin] at HR HV
      refine (HIS.out true (decide_eq_true hin).symm w4 N4.out.ref).mono ?_
      rintro e w5 ⟨rfl, hb5⟩
      have HY := Lib.hid (show R = 0 from HR.out)
      have HT := Lib.hid (show V = { U with ses := keepS ses U.ses, lea := keepL ses U.lea } from HV.out)
      have X5 := Lib.hid (X4.out.ext hb5)
      have N5 := Lib.hid (N4.out.ext hb5)
      have HM5 := Lib.hid (NX.lt X5.out HN.out)
      clear hb5 HR HV hin HIS
      have q := X5.out.box.cell
      have hlt := X5.out.lt
      have hU1 : U.lea.length ≤ 1000 := HUL.out.1
      have hU2 : U.ses.length ≤ 1000 := HUS.out
      have HRS := Lib.hid (show RowAt w5 SB (U.ses.map (Value.int .i64)) by
        obtain ⟨⟨A', c', e', hr', _⟩, _⟩ := N5.out
        cases e'
        exact hr'.row)
      have HRL := Lib.hid (show LeasAt w5 LB U.lea by
        obtain ⟨_, A', c', e', hr', _⟩ := N5.out
        cases e'
        exact hr'.row)
      have hlb : lb ≤ 9223372036854775807 := by simpa [maxLen] using hlm
      have hsb' : sb ≤ 9223372036854775807 := by simpa [maxLen] using hsm
      go_wp2_with fail
      clear q
      go_loopw [9, 35] (fun o i wr => ∃ (k : Nat) (ov : Value), ov = o ∧ k ≤ U.ses.length ∧ i = .int .i64 k ∧ Hid (wr.ownsRow w5.heap.size 2 1 ov (keepS ses (U.ses.take k)).length ((keepS ses (U.ses.take k)).map (Value.int .i64))) ∧ Hid (Below w5.heap.size w5 wr)) (fun _ i _ => U.ses.length - (intOf i).toNat)
      case atStart => exact ⟨0, _, rfl, by omega, rfl, Lib.hid (World.ownsRow_nil _ _ _ _), Lib.hid (Below.refl _ _)⟩
      case round =>
        obtain ⟨k, ov, rfl, hk, rfl, HO, G⟩ := hrel
        have hDw : w5.heap.size ≤ wr.heap.size := G.out.size
        by_cases hltk : k < U.ses.length
        · have hlt2 : (k : Int) < (U.ses.length : Int) := by omega
          obtain ⟨n, hn⟩ : ∃ n, U.ses[k]? = some n := ⟨_, List.getElem?_eq_getElem hltk⟩
          have HX := Lib.hid hn
          obtain ⟨gb, go, rfl, c0⟩ := (HRS.out.below G.out (Nat.le_refl _)) k (.int .i64 n) (by rw [List.getElem?_map, hn]; rfl)
          have HLK := Lib.hid (show (keepS ses (U.ses.take k)).length ≤ 1000 from Nat.le_trans (List.length_filter_le _ _) (by rw [List.length_take]; have := HUS.out; omega))
          clear hn
          by_cases hne : n = ses
          · have HS := Lib.hid (show keepS ses (U.ses.take (k + 1)) = keepS ses (U.ses.take k) by rw [keepS_step HX.out, if_neg (fun h => h hne), List.append_nil])
            have t1 : (n != ses) = false := by simpa using hne
            clear hne
            go_wp2_with fail
            rw [← HS.out] at HO
            go_roundw
            case rel => exact ⟨k + 1, _, rfl, by omega, by go_num, HO, G⟩
            case measure => simp [intOf]; omega
          · have HS := Lib.hid (show keepS ses (U.ses.take (k + 1)) = keepS ses (U.ses.take k) ++ [n] by rw [keepS_step HX.out, if_pos hne])
            have t1 : (n != ses) = true := by simpa using hne
            have hb1 : (keepS ses (U.ses.take k)).length ≤ 1000 := HLK.out
            clear hne
            generalize keepS ses (U.ses.take k) = M at *
            go_wp2_with (at_builtin; go_loud (refine wpList_append_own _ rfl _ _ 27 rfl w5.heap.size 2 j0 (.int .i64 0) 1 8 Tryz.underlying27 HJ0.out.1 HJ0.out.2.1 HJ0.out.2.2.1 HJ0.out.2.2.2 rfl (by decide) ov M.length (M.map (Value.int .i64)) rfl (HO.out.alloc _) ⟨wr.heap.size, 0, none⟩ 1 1 [.int .i64 n] rfl rfl (CellsAt.all (by simp [CellsAt, go_sem])) (by simp [Value.oneCell']) (by simp only [maxLen]; omega) (by omega) (by simp; omega) ?_))
            intro o' w6 ho hgr _
            have G6 := Lib.hid (show Below w5.heap.size w5 w6 from ((G.out.alloc hDw _).grown hgr (by simp; omega) (own_base HO.out)))
            have HO6 := Lib.hid (show w6.ownsRow w5.heap.size 2 1 o' (M ++ [n]).length ((M ++ [n]).map (Value.int .i64)) by
              rw [List.map_append, List.length_append]
              exact ho)
            rw [← HS.out] at HO6
            clear ho hgr
            go_wp2_with fail
            go_roundw
            case rel => exact ⟨k + 1, _, rfl, by omega, by go_num, HO6, G6⟩
            case measure => simp [intOf]; omega
        · obtain rfl : k = U.ses.length := by omega
          rw [List.take_length] at HO
          have XW := Lib.hid (X5.out.ext G.out)
          have q := XW.out.box.cell
          have hltw := XW.out.lt
          clear hltk
          obtain ⟨w7, hw7⟩ : ∃ w7, w7 = wr := ⟨_, rfl⟩
          subst hw7
          have HD7 := Lib.hid (show w5.heap.size ≤ w7.heap.size from hDw)
          clear hDw
          go_wp2_with fail
          clear q
          go_loopw [12, 50] (fun o i wr => ∃ (k : Nat) (hv : Value), hv = o ∧ k ≤ U.lea.length ∧ i = .int .i64 k ∧ Hid (wr.ownsRow w7.heap.size 49 4 hv (keepL ses (U.lea.take k)).length ((keepL ses (U.lea.take k)).flatMap lsV)) ∧ Hid (Below w7.heap.size w7 wr)) (fun _ i _ => U.lea.length - (intOf i).toNat)
          case atStart => exact ⟨0, _, rfl, by omega, rfl, Lib.hid (World.ownsRow_nil _ _ _ _), Lib.hid (Below.refl _ _)⟩
          case round =>
            obtain ⟨k, hv, rfl, hk, rfl, HO2, G2⟩ := hrel
            have hDw : w7.heap.size ≤ wr.heap.size := G2.out.size
            by_cases hltk : k < U.lea.length
            · have hlt2 : (k : Int) < (U.lea.length : Int) := by omega
              obtain ⟨x, hx⟩ : ∃ x, U.lea[k]? = some x := ⟨_, List.getElem?_eq_getElem hltk⟩
              have HX := Lib.hid hx
              have HRw : LeasAt wr LB U.lea := RowAt.below HRL.out (G.out.trans (G2.out.mono HD7.out)) (Nat.le_refl _)
              obtain ⟨g, o, rfl⟩ := LeasAt.some HRw hx
              obtain ⟨q0, q1, q2, q3⟩ := LeasAt.get HRw hx
              have HLK := Lib.hid (show (keepL ses (U.lea.take k)).length ≤ 1000 from Nat.le_trans (List.length_filter_le _ _) (by rw [List.length_take]; have := HUL.out.1; omega))
              clear HRw hx
              by_cases hne : x.ses = ses
              · have HS := Lib.hid (show keepL ses (U.lea.take (k + 1)) = keepL ses (U.lea.take k) by rw [keepL_step HX.out, if_neg (fun h => h hne), List.append_nil])
                have t1 : (x.ses != ses) = false := by simpa using hne
                clear hne
                go_wp2_with fail
                rw [← HS.out] at HO2
                go_roundw
                case rel => exact ⟨k + 1, _, rfl, by omega, by go_num, Lib.hid (HO2.out.alloc _), Lib.hid (G2.out.alloc hDw _)⟩
                case measure => simp [intOf]; omega
              · have HS := Lib.hid (show keepL ses (U.lea.take (k + 1)) = keepL ses (U.lea.take k) ++ [x] by rw [keepL_step HX.out, if_pos hne])
                have t1 : (x.ses != ses) = true := by simpa using hne
                have hb1 : (keepL ses (U.lea.take k)).length ≤ 1000 := HLK.out
                clear hne
                generalize keepL ses (U.lea.take k) = M at *
                go_wp2_with (at_builtin; go_loud (refine wpList_append_own _ rfl _ _ 28 rfl w7.heap.size 49 i0 (.agg #[.string ⟨#[]⟩, .int .i64 0, .int .i64 0, .int .i64 0]) 4 40 Tryz.underlying28 HI0.out.1 HI0.out.2.1 HI0.out.2.2.1 HI0.out.2.2.2 rfl (by decide) hv M.length (M.flatMap lsV) rfl ((HO2.out.alloc _).alloc _) ⟨wr.heap.size + 1, 0, none⟩ 1 1 (lsV x) rfl rfl (CellsAt.all (by simp [CellsAt, go_sem, lsV])) (by simp [Value.oneCell', lsV]) (by simp only [maxLen]; omega) (by omega) (by simp; omega) ?_))
                intro o' w6 ho hgr _
                have G6 := Lib.hid (show Below w7.heap.size w7 w6 from (((G2.out.alloc hDw _).alloc (by simp; omega) _).grown hgr (by simp; omega) (own_base HO2.out)))
                have HO6 := Lib.hid (show w6.ownsRow w7.heap.size 49 4 o' (M ++ [x]).length ((M ++ [x]).flatMap lsV) by
                  rw [List.flatMap_append, List.length_append]
                  simpa using ho)
                rw [← HS.out] at HO6
                clear ho hgr
                go_wp2_with fail
                go_roundw
                case rel => exact ⟨k + 1, _, rfl, by omega, by go_num, HO6, G6⟩
                case measure => simp [intOf]; omega
            · obtain rfl : k = U.lea.length := by omega
              rw [List.take_length] at HO2
              have XZ := Lib.hid (XW.out.ext G2.out)
              have NZ := Lib.hid (RefN.newL (T' := { U with ses := keepS ses U.ses, lea := keepL ses U.lea }) (RefN.newS (T' := { U with ses := keepS ses U.ses }) ((N5.out.ext G.out).ext G2.out) rfl (own_ext HO.out G2.out) HM5.out) rfl (ownsRow_mono HO2.out HD7.out) HM5.out)
              have q := XZ.out.box.cell
              have y := XZ.out.box.free
              have q1 := XZ.out.res.cell
              have y1 := XZ.out.res.free
              have hltz := XZ.out.lt
              clear hltk
              obtain ⟨KS, kc, rfl, _, _, _⟩ := ints_of_own HO.out
              obtain ⟨KL, kd, rfl, _, _, _⟩ := leas_of_own HO2.out
              go_wp2_with (with_reducible refine stop_at ?_)
              unfold StopAt
              clear q y q1 y1
              generalize hw9 : World.setCell _ _ _ = w9
              have X9 := Lib.hid (show RBox D w _ [Value.int .i64 U.now, Value.int .i64 U.ls, Value.int .i64 U.lf, Value.slice KS (keepS ses U.ses).length kc, Value.slice KL (keepL ses U.lea).length kd] w9 by rw [← hw9]; exact ((((((XZ.out.setB 3 _).setB 4 _).setR 0 _).setR 1 _).setR 2 _).setR 3 _).setR 4 _)
              have N9 := Lib.hid (show RefN (NX N D) _ _ _ w9 by rw [← hw9]; exact ((((((NZ.out.putB 3 _).putB 4 _).putR 0 _).putR 1 _).putR 2 _).putR 3 _).putR 4 _)
              have r0 : w9.cell? ⟨D + 1, 0, none⟩ = some (Value.int .i64 U.now) := X9.out.res.cell 0
              have r1 : w9.cell? ⟨D + 1, 1, none⟩ = some (Value.int .i64 U.ls) := X9.out.res.cell 1
              have r2 : w9.cell? ⟨D + 1, 2, none⟩ = some (Value.int .i64 U.lf) := X9.out.res.cell 2
              have r3 : w9.cell? ⟨D + 1, 3, none⟩ = some (Value.slice KS (keepS ses U.ses).length kc) := X9.out.res.cell 3
              have r4 : w9.cell? ⟨D + 1, 4, none⟩ = some (Value.slice KL (keepL ses U.lea).length kd) := X9.out.res.cell 4
              refine bodyPost_ret (by simp [results, Tryz.results38, r0, r1, r2, r3, r4, go_sem]; try rfl) rfl ?_
              rw [HY.out, HT.out]
              exact ⟨⟨_, _, rfl, N9.out.unbox⟩, X9.out.bel⟩
    · rw [if_neg hin] at HR HV
      refine (HIS.out false (decide_eq_false hin).symm w4 N4.out.ref).mono ?_
      rintro e w5 ⟨rfl, hb5⟩
      have HY := Lib.hid (show R = 6 from HR.out)
      have HT := Lib.hid (show V = U from HV.out)
      have X5 := Lib.hid (X4.out.ext hb5)
      have N5 := Lib.hid (N4.out.ext hb5)
      clear hb5 hin HIS
      have q := X5.out.box.cell
      have y := X5.out.box.free
      have q1 := X5.out.res.cell
      have y1 := X5.out.res.free
      have hlt := X5.out.lt
      go_wp2_with (with_reducible refine stop_at ?_)
      unfold StopAt
      clear q y q1 y1
      generalize hw9 : World.setCell _ _ _ = w9
      have X9 := Lib.hid (show RBox D w _ [Value.int .i64 U.now, Value.int .i64 U.ls, Value.int .i64 U.lf, Value.slice SB U.ses.length sb, Value.slice LB U.lea.length lb] w9 by rw [← hw9]; exact ((((X5.out.setR 0 _).setR 1 _).setR 2 _).setR 3 _).setR 4 _)
      have N9 := Lib.hid (show RefN (NX N D) _ _ _ w9 by rw [← hw9]; exact ((((N5.out.putR 0 _).putR 1 _).putR 2 _).putR 3 _).putR 4 _)
      have r0 : w9.cell? ⟨D + 1, 0, none⟩ = some (Value.int .i64 U.now) := X9.out.res.cell 0
      have r1 : w9.cell? ⟨D + 1, 1, none⟩ = some (Value.int .i64 U.ls) := X9.out.res.cell 1
      have r2 : w9.cell? ⟨D + 1, 2, none⟩ = some (Value.int .i64 U.lf) := X9.out.res.cell 2
      have r3 : w9.cell? ⟨D + 1, 3, none⟩ = some (Value.slice SB U.ses.length sb) := X9.out.res.cell 3
      have r4 : w9.cell? ⟨D + 1, 4, none⟩ = some (Value.slice LB U.lea.length lb) := X9.out.res.cell 4
      refine bodyPost_ret (by simp [results, Tryz.results38, r0, r1, r2, r3, r4, go_sem]; try rfl) rfl ?_
      rw [HY.out, HT.out]
      exact ⟨⟨_, _, rfl, N9.out.unbox⟩, X9.out.bel⟩
  · rw [if_neg h0] at HR HV
    have HY := Lib.hid (show R = E0 from HR.out)
    have HT := Lib.hid (show V = U from HV.out)
    have t0 : (E0 != 0) = true := by simpa using h0
    clear h0
    go_wp2_with (with_reducible refine stop_at ?_)
    unfold StopAt
    clear q y q1 y1
    generalize hw9 : World.setCell _ _ _ = w9
    have X9 := Lib.hid (show RBox D w _ [Value.int .i64 U.now, Value.int .i64 U.ls, Value.int .i64 U.lf, Value.slice SB U.ses.length sb, Value.slice LB U.lea.length lb] w9 by rw [← hw9]; exact (((((((((X3.out.setB 0 _).setB 1 _).setB 2 _).setB 3 _).setB 4 _).setR 0 _).setR 1 _).setR 2 _).setR 3 _).setR 4 _)
    have N9 := Lib.hid (show RefN (NX N D) _ _ _ w9 by rw [← hw9]; exact (((((((((N3.out.putB 0 _).putB 1 _).putB 2 _).putB 3 _).putB 4 _).putR 0 _).putR 1 _).putR 2 _).putR 3 _).putR 4 _)
    have r0 : w9.cell? ⟨D + 1, 0, none⟩ = some (Value.int .i64 U.now) := X9.out.res.cell 0
    have r1 : w9.cell? ⟨D + 1, 1, none⟩ = some (Value.int .i64 U.ls) := X9.out.res.cell 1
    have r2 : w9.cell? ⟨D + 1, 2, none⟩ = some (Value.int .i64 U.lf) := X9.out.res.cell 2
    have r3 : w9.cell? ⟨D + 1, 3, none⟩ = some (Value.slice SB U.ses.length sb) := X9.out.res.cell 3
    have r4 : w9.cell? ⟨D + 1, 4, none⟩ = some (Value.slice LB U.lea.length lb) := X9.out.res.cell 4
    refine bodyPost_ret (by simp [results, Tryz.results38, r0, r1, r2, r3, r4, go_sem]; try rfl) rfl ?_
    rw [HY.out, HT.out]
    exact ⟨⟨_, _, rfl, N9.out.unbox⟩, X9.out.bel⟩
end Go.Proofs.YtneiljaknmeagaaGreatDoor
