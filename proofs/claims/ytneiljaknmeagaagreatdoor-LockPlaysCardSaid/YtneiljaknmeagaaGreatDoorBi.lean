/-
  Sessions, Holder and Check of the reference. The conditions of the contracts are their hypotheses.
-/
import Derived.Test.YtneiljaknmeagaaGreatDoorRa
import Derived.Test.YtneiljaknmeagaaGreatDoorM5
import Derived.Laws.AppendOwnNone
namespace Go.Proofs.YtneiljaknmeagaaGreatDoor
open Go.RowKit Go.Joins
set_option linter.unusedVariables false
set_option linter.unusedSimpArgs false
theorem mine_none {T : Tb} {ses : Int} {reel : List UInt8} {fen : Int} (h : ∀ (j : Nat) (x : Ls), T.lea[j]? = some x → ¬ (x.reel = reel ∧ x.ses = ses ∧ x.fen = fen)) : heldI T ses reel fen = none := by
  cases hh : heldI T ses reel fen with
  | none => rfl
  | some k =>
    obtain ⟨x, h1, h2⟩ := heldI_get hh
    exact absurd h2 (h k x h1)
theorem fpos_reel {L : List Ls} {reel : List UInt8} (hasc : Asc L) {k : Nat} {x : Ls} (hk : L[k]? = some x) (hx : x.reel = reel) : fpos reel L = k := by
  refine fpos_of (Nat.le_of_lt (List.getElem?_eq_some_iff.1 hk).1) (fun m y hm hy => ?_) (fun y hy => ?_)
  · have := Asc.get hasc hm hy hk
    rwa [hx] at this
  · rw [hk] at hy
    cases hy
    rw [hx, cmp_self]
    exact Int.le_refl _
theorem fhas_reel {L : List Ls} {reel : List UInt8} (hasc : Asc L) {k : Nat} {x : Ls} (hk : L[k]? = some x) (hx : x.reel = reel) : fhas reel L = true := by
  unfold fhas
  rw [fpos_reel hasc hk hx, hk]
  exact decide_eq_true hx
theorem mine_some {T : Tb} {ses : Int} {reel : List UInt8} {fen : Int} (hasc : Asc T.lea) {k : Nat} {x : Ls} (hk : T.lea[k]? = some x) (h1 : x.reel = reel) (h2 : x.ses = ses) (h3 : x.fen = fen) : heldI T ses reel fen = some k := by
  unfold heldI
  rw [if_pos (fhas_reel hasc hk h1), fpos_reel hasc hk h1, hk]
  show (if x.ses = ses then (if x.fen = fen then some k else none) else none) = some k
  rw [if_pos h2, if_pos h3]
def mineI (T : Tb) (ses : Int) (reel : List UInt8) (fen : Int) : Int := match heldI T ses reel fen with
  | some k => (k : Int)
  | none => -1
theorem own_empty {w : World} {h size : Nat} {t : TypeId} (hh : h = w.heap.size) : (w.alloc (.cells #[] t (0, 0))).ownsRow h t size (.slice (some ⟨h, 0, none⟩) 0 0) 0 [] := by
  subst hh
  exact World.ownsRow_made w #[] 0 (Nat.le_refl _) (by simp) (by simp)
theorem str_eq (a b : List UInt8) : ((sB a).toList == (sB b).toList) = decide (a = b) := by
  rw [Lib.toList_data, Lib.toList_data, sB_list, sB_list]
  by_cases h : a = b
  · rw [decide_eq_true h, h]; simp
  · rw [decide_eq_false h, beq_eq_false_iff_ne]
    exact h
set_option maxRecDepth 100000 in
set_option maxHeartbeats 2000000 in
theorem mine_any (T : Tb) (sv lv : Value) (ses : Int) (reel : List UInt8) (fen : Int) (w : World) (h : RefT T sv lv w) (hasc : Asc T.lea) (hl : T.lea.length ≤ 1000) :
    Calls Tryz.prog 66 #[refV T sv lv, .int .i64 ses, .string (sB reel), .int .i64 fen] w fun e w' => e = .returned (.int .i64 (mineI T ses reel fen)) ∧ Below w.heap.size w w' := by
  obtain ⟨R, hR⟩ : ∃ R, R = mineI T ses reel fen := ⟨_, rfl⟩
  have HR := Lib.hid hR
  rw [← hR]
  have HA := Lib.hid (fun k x => mine_some (ses := ses) (reel := reel) (fen := fen) hasc (k := k) (x := x))
  have HZ := Lib.hid (mine_none (T := T) (ses := ses) (reel := reel) (fen := fen))
  obtain ⟨⟨SA, sc, rfl, _⟩, A, c, rfl, hr, hnc, hcm⟩ := h
  have HR0 := Lib.hid hr
  obtain ⟨D, hD⟩ : ∃ D, D = w.heap.size := ⟨_, rfl⟩
  have HD := Lib.hid hD
  rw [← hD]
  generalize T.now = tn at *
  generalize T.ls = tl at *
  generalize T.lf = tf at *
  generalize T.ses.length = sn at *
  clear hr hcm hR hasc
  go_enter Tryz.func66, Tryz.ntmps66
  go_wp2_with fail
  rw [← hD]
  generalize hw1 : World.alloc _ _ = w1
  have G1 := Lib.hid (show Below D w w1 by subst hw1; rw [hD]; exact below_one _ _)
  clear hw1 hD
  go_loopw [14] (fun i wr => ∃ k : Nat, k ≤ T.lea.length ∧ i = .int .i64 k ∧ Hid (∀ j x, j < k → T.lea[j]? = some x → ¬ (x.reel = reel ∧ x.ses = ses ∧ x.fen = fen)) ∧ Hid (Below D w wr)) (fun i _ => T.lea.length - (intOf i).toNat)
  case atStart => exact ⟨0, by omega, rfl, Lib.hid (fun j x hj => by omega), G1⟩
  case round =>
    obtain ⟨k, hk, rfl, HK, G⟩ := hrel
    have hDw : D ≤ wr.heap.size := by have := G.out.size; have := HD.out; omega
    by_cases hlt : k < T.lea.length
    · have hlt2 : (k : Int) < (T.lea.length : Int) := by omega
      obtain ⟨x, hx⟩ : ∃ x, T.lea[k]? = some x := ⟨_, List.getElem?_eq_getElem hlt⟩
      have HX := Lib.hid hx
      have HRw : LeasAt wr A T.lea := RowAt.below HR0.out (HD.out ▸ G.out) (Nat.le_refl _)
      obtain ⟨g, o, rfl⟩ := LeasAt.some HRw hx
      obtain ⟨q0, q1, q2, q3⟩ := LeasAt.get HRw hx
      clear HRw hx
      have HN := Lib.hid (fun (hne : ¬ (x.reel = reel ∧ x.ses = ses ∧ x.fen = fen)) => show ∀ j y, j < k + 1 → T.lea[j]? = some y → ¬ (y.reel = reel ∧ y.ses = ses ∧ y.fen = fen) from fun j y hj hy => by
        rcases Nat.lt_succ_iff_lt_or_eq.1 hj with h | rfl
        · exact HK.out j y h hy
        · have e := HX.out
          rw [hy] at e
          cases e
          exact hne)
      by_cases h1 : x.reel = reel
      · have t1 : ((sB x.reel).toList == (sB reel).toList) = true := (str_eq x.reel reel).trans (decide_eq_true h1)
        by_cases h2 : x.ses = ses
        · have t2 : (x.ses == ses) = true := beq_iff_eq.2 h2
          by_cases h3 : x.fen = fen
          · have t3 : (x.fen == fen) = true := beq_iff_eq.2 h3
            have HY := Lib.hid (show R = (k : Int) by
              rw [HR.out]
              unfold mineI
              rw [HA.out k x HX.out h1 h2 h3])
            clear h1 h2 h3
            go_wp2_with fail
            go_ret
            exact ⟨by rw [HY.out]; rfl, G.out.alloc hDw _⟩
          · have t3 : (x.fen == fen) = false := beq_eq_false_iff_ne.2 h3
            have HK1 := Lib.hid (HN.out (fun h => by first | exact h1 h.1 | exact h2 h.2.1 | exact h3 h.2.2))
            clear h1 h2 h3
            go_wp2_with fail
            go_roundw
            case rel => exact ⟨k + 1, by omega, by go_num, HK1, Lib.hid (G.out.alloc hDw _)⟩
            case measure => simp [intOf]; omega
        · have t2 : (x.ses == ses) = false := beq_eq_false_iff_ne.2 h2
          have HK1 := Lib.hid (HN.out (fun h => by first | exact h1 h.1 | exact h2 h.2.1 | exact h3 h.2.2))
          clear h1 h2
          go_wp2_with fail
          go_roundw
          case rel => exact ⟨k + 1, by omega, by go_num, HK1, Lib.hid (G.out.alloc hDw _)⟩
          case measure => simp [intOf]; omega
      · have t1 : ((sB x.reel).toList == (sB reel).toList) = false := (str_eq x.reel reel).trans (decide_eq_false h1)
        have HK1 := Lib.hid (HN.out (fun h => by first | exact h1 h.1 | exact h2 h.2.1 | exact h3 h.2.2))
        clear h1
        go_wp2_with fail
        go_roundw
        case rel => exact ⟨k + 1, by omega, by go_num, HK1, Lib.hid (G.out.alloc hDw _)⟩
        case measure => simp [intOf]; omega
    · obtain rfl : k = T.lea.length := by omega
      have HY := Lib.hid (show R = -1 by
        rw [HR.out]
        unfold mineI
        rw [HZ.out (fun j x hj => HK.out j x (List.getElem?_eq_some_iff.1 hj).1 hj)])
      clear hlt
      go_wp2_with fail
      go_ret
      exact ⟨by rw [HY.out]; rfl, G.out⟩
set_option maxRecDepth 100000 in
set_option maxHeartbeats 2000000 in
theorem sesr_any (N : Nat → Prop) (T : Tb) (sv lv : Value) (w : World) (h : RefN N T sv lv w) (hl : T.ses.length ≤ 1000) (D0 : Nat) (hD0 : D0 ≤ w.heap.size) :
    Calls Tryz.prog 14 #[refV T sv lv] w fun e w' => (∃ v, e = .returned v ∧ w'.ownsRow D0 2 1 v T.ses.length (T.ses.map (Value.int .i64))) ∧ Below w.heap.size w w' := by
  obtain ⟨i0, hi, hz0, hz1, hz2⟩ := info_parts infoI
  have HI0 := Lib.hid (And.intro hi (And.intro hz0 (And.intro hz1 hz2)))
  clear hi hz0 hz1 hz2
  obtain ⟨⟨SA, sc, rfl, hr, hsc, hsm, hz⟩, A, c, rfl, _⟩ := h
  have HR0 := Lib.hid hr.row
  obtain ⟨D, hD⟩ : ∃ D, D = w.heap.size := ⟨_, rfl⟩
  have HD := Lib.hid hD
  rw [← hD] at hD0 ⊢
  generalize T.now = tn at *
  generalize T.ls = tl at *
  generalize T.lf = tf at *
  generalize T.lea.length = ln at *
  generalize T.ses = S at *
  clear hr
  have HONE := Lib.hid (show ∀ u ∈ S.map (Value.int .i64), u.oneCell' = true by intro u hu; obtain ⟨n, _, rfl⟩ := List.mem_map.1 hu; rfl)
  rcases SA with _ | a
  · have hS : S = [] := by
      cases hs : S with
      | nil => rfl
      | cons n r =>
        rw [hs] at HR0
        obtain ⟨b, o, e, _⟩ := HR0.out 0 (.int .i64 n) rfl
        cases e
    obtain rfl : sc = 0 := hz rfl
    subst hS
    clear hz hsc hsm hl
    go_enter Tryz.func14, Tryz.ntmps14
    go_wp2_with (at_builtin; go_loud (refine wpList_append_own_none rfl _ _ 27 rfl (w.heap.size + 1) 2 i0 1 Tryz.underlying27 HI0.out.1 (.slice (some ⟨w.heap.size + 1, 0, none⟩) 0 0) 0 [] rfl (own_empty (by simp)) rfl ?_))
    go_wp2_with fail
    go_ret
    exact ⟨⟨_, rfl, ownsRow_mono (own_empty (by simp)) (by omega)⟩, by rw [HD.out]; exact ((Below.refl _ _).alloc (Nat.le_refl _) _).alloc (by simp) _⟩
  · clear hz
    go_enter Tryz.func14, Tryz.ntmps14
    have HN := Lib.hid (show ∀ (o1 o2 : Obj) j u, (S.map (Value.int .i64))[j]? = some u → ((w.alloc o1).alloc o2).cell? (a.add j) = some u from fun o1 o2 j u hj => by
      obtain ⟨b, o, e, hc⟩ := HR0.out j u hj
      cases e
      have hlt := World.block_lt_of_cell? w _ hc
      have hadd : (⟨b, o, none⟩ : Addr).add j = ⟨b, o + j, none⟩ := by unfold Addr.add; split <;> simp_all
      rw [hadd, ← hc]
      exact (((below_one w o1).trans ((below_one (w.alloc o1) o2).mono (by simp))).cell hlt))
    go_wp2_with (at_builtin; go_loud (refine wpList_append_own _ rfl _ _ 27 rfl (w.heap.size + 1) 2 i0 (.int .i64 0) 1 8 Tryz.underlying27 HI0.out.1 HI0.out.2.1 HI0.out.2.2.1 HI0.out.2.2.2 rfl (by decide) (.slice (some ⟨w.heap.size + 1, 0, none⟩) 0 0) 0 [] rfl (own_empty (by simp)) a S.length sc (S.map (Value.int .i64)) rfl (by simp) (HN.out _ _) HONE.out (by simp only [maxLen]; omega) (by omega) (by simp) ?_))
    intro o' w5 ho hgr _
    have HO5 := Lib.hid (show w5.ownsRow D0 2 1 o' S.length (S.map (Value.int .i64)) by
      have := ownsRow_mono ho (show D0 ≤ w.heap.size + 1 by omega)
      simpa using this)
    have G5 := Lib.hid (show Below D w w5 by
      rw [HD.out]
      exact (((Below.refl _ _).alloc (Nat.le_refl _) _).alloc (by simp) _).grown hgr (by simp; omega) (fun k hk => by cases hk; exact Nat.le_succ _))
    clear ho hgr
    go_wp2_with fail
    go_ret
    exact ⟨⟨_, rfl, HO5.out⟩, G5.out⟩
end Go.Proofs.YtneiljaknmeagaaGreatDoor
namespace Go.Proofs.YtneiljaknmeagaaGreatDoor
open Go.RowKit Go.Joins
set_option linter.unusedVariables false
set_option linter.unusedSimpArgs false
theorem hold_yes {T : Tb} {now : Int} {reel : List UInt8} (hasc : Asc T.lea) {k : Nat} {x : Ls} (hk : (alive now T.lea)[k]? = some x) (hx : x.reel = reel) : holdV T now reel = (x, true) := by
  have hm := List.mem_of_getElem? hk
  unfold alive at hm
  obtain ⟨h1, h2⟩ := List.mem_filter.1 hm
  obtain ⟨j, hj⟩ := List.mem_iff_getElem?.1 h1
  have h3 : now < x.unt := of_decide_eq_true h2
  unfold holdV
  rw [if_pos (fhas_reel hasc hj hx), fpos_reel hasc hj hx, hj]
  show (if x.unt ≤ now then (ls0, false) else (x, true)) = (x, true)
  rw [if_neg (by omega)]
theorem hold_no {T : Tb} {now : Int} {reel : List UInt8} (h : ∀ (j : Nat) (x : Ls), (alive now T.lea)[j]? = some x → x.reel ≠ reel) : holdV T now reel = (ls0, false) := by
  unfold holdV
  split
  · rename_i hh
    obtain ⟨x, hx, hr⟩ := fhas_some hh
    rw [hx]
    show (if x.unt ≤ now then (ls0, false) else (x, true)) = (ls0, false)
    split
    · rfl
    · rename_i hu
      have hm : x ∈ alive now T.lea := by
        unfold alive
        exact List.mem_filter.2 ⟨List.mem_of_getElem? hx, decide_eq_true (by omega)⟩
      obtain ⟨j, hj⟩ := List.mem_iff_getElem?.1 hm
      exact absurd hr (h j x hj)
  · rfl
set_option maxRecDepth 100000 in
set_option maxHeartbeats 2000000 in
theorem holdr_any (T : Tb) (sv lv : Value) (now : Int) (reel : List UInt8) (w : World) (h : RefT T sv lv w) (hasc : Asc T.lea) (hl : T.lea.length ≤ 1000) :
    Calls Tryz.prog 19 #[refV T sv lv, .int .i64 now, .string (sB reel)] w (HoldP (holdV T now reel) w) := by
  obtain ⟨R, hR⟩ : ∃ R, R = holdV T now reel := ⟨_, rfl⟩
  have HR := Lib.hid hR
  unfold HoldP
  rw [← hR]
  have HY := Lib.hid (fun k x => hold_yes (now := now) (reel := reel) hasc (k := k) (x := x))
  have HZ := Lib.hid (hold_no (T := T) (now := now) (reel := reel))
  have HLS := Lib.hid (fun W hW => leasesr_any T sv lv now W hW hl)
  have H := Lib.hid h
  have HAL := Lib.hid (Nat.le_trans (alive_len now T.lea) hl)
  obtain ⟨⟨SA, sc, rfl, _⟩, A, c, rfl, _⟩ := h
  obtain ⟨D, hD⟩ : ∃ D, D = w.heap.size := ⟨_, rfl⟩
  have HD := Lib.hid hD
  rw [← hD]
  clear hR hasc hl
  go_enter Tryz.func19, Tryz.ntmps19
  go_wp2_with fail
  rw [← hD]
  generalize hw2 : World.alloc _ _ = w2
  have X2 := Lib.hid (show RBox D w [.int .i64 T.now, .int .i64 T.ls, .int .i64 T.lf, .slice SA T.ses.length sc, .slice A T.lea.length c] [.string ⟨#[]⟩, .int .i64 0, .int .i64 0, .int .i64 0] w2 by rw [← hw2]; exact RBox.start hD)
  clear hw2 hD
  refine (HLS.out w2 (H.out.ext (HD.out ▸ X2.out.bel))).mono ?_
  rintro e w3 ⟨⟨v, rfl, hv⟩, hb⟩
  have X3 := Lib.hid (X2.out.ext hb)
  obtain ⟨LA, lc, rfl, hlr, hlc, hlm⟩ := leas_of_own hv
  have HRA := Lib.hid hlr
  obtain ⟨L, hL⟩ : ∃ L, L = alive now T.lea := ⟨_, rfl⟩
  rw [← hL] at HRA HY HZ HAL ⊢
  have hLl : L.length ≤ 1000 := HAL.out
  clear hb hv hlr hL
  have hX3 := X3.out.lt
  go_wp2_with fail
  go_loopw [14] (fun i wr => ∃ k : Nat, k ≤ L.length ∧ i = .int .i64 k ∧ Hid (∀ (j : Nat) (x : Ls), j < k → L[j]? = some x → x.reel ≠ reel) ∧ Hid (Below w3.heap.size w3 wr)) (fun i _ => L.length - (intOf i).toNat)
  case atStart => exact ⟨0, by omega, rfl, Lib.hid (fun j x hj => by omega), Lib.hid (Below.refl _ _)⟩
  case round =>
    obtain ⟨k, hk, rfl, HK, G⟩ := hrel
    have hDw : w3.heap.size ≤ wr.heap.size := G.out.size
    have XW := Lib.hid (X3.out.ext G.out)
    by_cases hlt : k < L.length
    · have hlt2 : (k : Int) < (L.length : Int) := by omega
      obtain ⟨x, hx⟩ : ∃ x, L[k]? = some x := ⟨_, List.getElem?_eq_getElem hlt⟩
      have HX := Lib.hid hx
      have HRw : LeasAt wr LA L := RowAt.below HRA.out G.out (Nat.le_refl _)
      obtain ⟨g, o, rfl⟩ := LeasAt.some HRw hx
      obtain ⟨q0, q1, q2, q3⟩ := LeasAt.get HRw hx
      clear HRw hx
      by_cases h1 : x.reel = reel
      · have t1 : ((sB x.reel).toList == (sB reel).toList) = true := (str_eq x.reel reel).trans (decide_eq_true h1)
        have HE := Lib.hid (show R = (x, true) from HR.out.trans (HY.out k x HX.out h1))
        have XW1 := Lib.hid (XW.out.ext (below_one wr (.cells #[.string (sB x.reel), .int .i64 x.ses, .int .i64 x.fen, .int .i64 x.unt] 49)))
        clear h1
        have p := XW1.out.res.cell
        have y := XW1.out.res.free
        have hlt9 := XW1.out.lt
        go_wp2_with (with_reducible refine stop_at ?_)
        unfold StopAt
        generalize hw9 : World.setCell _ _ _ = w9
        have X9 := Lib.hid (show RBox D w _ [Value.string (sB x.reel), Value.int .i64 x.ses, Value.int .i64 x.fen, Value.int .i64 x.unt] w9 by rw [← hw9]; exact (((XW1.out.setR 0 _).setR 1 _).setR 2 _).setR 3 _)
        have r0 : w9.cell? ⟨D + 1, 0, none⟩ = some (Value.string (sB x.reel)) := X9.out.res.cell 0
        have r1 : w9.cell? ⟨D + 1, 1, none⟩ = some (Value.int .i64 x.ses) := X9.out.res.cell 1
        have r2 : w9.cell? ⟨D + 1, 2, none⟩ = some (Value.int .i64 x.fen) := X9.out.res.cell 2
        have r3 : w9.cell? ⟨D + 1, 3, none⟩ = some (Value.int .i64 x.unt) := X9.out.res.cell 3
        refine bodyPost_ret (v := .tuple #[lsA x, .bool true]) (by simp [results, Tryz.results19, r0, r1, r2, r3, go_sem, lsA, ls0, sB]; try rfl) rfl ?_
        exact ⟨by rw [HE.out], X9.out.bel⟩
      · have t1 : ((sB x.reel).toList == (sB reel).toList) = false := (str_eq x.reel reel).trans (decide_eq_false h1)
        have HK1 := Lib.hid (show ∀ (j : Nat) (y : Ls), j < k + 1 → L[j]? = some y → y.reel ≠ reel from fun j y hj hy => by
          rcases Nat.lt_succ_iff_lt_or_eq.1 hj with h | rfl
          · exact HK.out j y h hy
          · have e := HX.out
            rw [hy] at e
            cases e
            exact h1)
        clear h1
        go_wp2_with fail
        go_roundw
        case rel => exact ⟨k + 1, by omega, by go_num, HK1, Lib.hid (G.out.alloc hDw _)⟩
        case measure => simp [intOf]; omega
    · obtain rfl : k = L.length := by omega
      have HE := Lib.hid (show R = (ls0, false) from HR.out.trans (HZ.out (fun j x hj => HK.out j x (List.getElem?_eq_some_iff.1 hj).1 hj)))
      clear hlt
      have p := XW.out.res.cell
      have y := XW.out.res.free
      have hlt9 := XW.out.lt
      go_wp2_with (with_reducible refine stop_at ?_)
      unfold StopAt
      generalize hw9 : World.setCell _ _ _ = w9
      have X9 := Lib.hid (show RBox D w _ [Value.string ⟨#[]⟩, Value.int .i64 0, Value.int .i64 0, Value.int .i64 0] w9 by rw [← hw9]; exact (((XW.out.setR 0 _).setR 1 _).setR 2 _).setR 3 _)
      have r0 : w9.cell? ⟨D + 1, 0, none⟩ = some (Value.string ⟨#[]⟩) := X9.out.res.cell 0
      have r1 : w9.cell? ⟨D + 1, 1, none⟩ = some (Value.int .i64 0) := X9.out.res.cell 1
      have r2 : w9.cell? ⟨D + 1, 2, none⟩ = some (Value.int .i64 0) := X9.out.res.cell 2
      have r3 : w9.cell? ⟨D + 1, 3, none⟩ = some (Value.int .i64 0) := X9.out.res.cell 3
      refine bodyPost_ret (v := .tuple #[lsA ls0, .bool false]) (by simp [results, Tryz.results19, r0, r1, r2, r3, go_sem, lsA, ls0, sB]; try rfl) rfl ?_
      exact ⟨by rw [HE.out], X9.out.bel⟩
end Go.Proofs.YtneiljaknmeagaaGreatDoor
namespace Go.Proofs.YtneiljaknmeagaaGreatDoor
open Go.RowKit Go.Joins
set_option linter.unusedVariables false
set_option linter.unusedSimpArgs false
theorem heldE_no {T : Tb} {now ses fen : Int} {reel : List UInt8} (h : toldE T now ≠ 0) : heldE T now ses reel fen = toldE T now := by
  unfold heldE
  rw [if_neg h]
theorem heldE_yes {T : Tb} {now ses fen : Int} {reel : List UInt8} (h : toldE T now = 0) : heldE T now ses reel fen = if mineI (toldT T now) ses reel fen < 0 then 18 else 0 := by
  unfold heldE mineI
  rw [if_pos h]
  cases heldI (toldT T now) ses reel fen with
  | none => rfl
  | some k =>
    show (0 : Int) = if (k : Int) < 0 then 18 else 0
    rw [if_neg (by omega)]
set_option maxRecDepth 100000 in
set_option maxHeartbeats 2000000 in
theorem checkr_any (N : Nat → Prop) (T : Tb) (sv lv : Value) (now ses : Int) (reel : List UInt8) (fen : Int) (w : World) (h : RefN N T sv lv w) (hN : ∀ b, N b → b < w.heap.size) (hasc : Asc T.lea) (hl : T.lea.length ≤ 1000) :
    Calls Tryz.prog 44 #[refV T sv lv, .int .i64 now, .int .i64 ses, .string (sB reel), .int .i64 fen] w (RM1 N w (toldT T now) (.int .i64 (heldE T now ses reel fen))) := by
  obtain ⟨R, hR⟩ : ∃ R, R = heldE T now ses reel fen := ⟨_, rfl⟩
  have HR := Lib.hid hR
  have HAS := Lib.hid (toldT_asc hasc now)
  obtain ⟨V, hV⟩ : ∃ V, V = toldT T now := ⟨_, rfl⟩
  have HV0 := Lib.hid hV
  rw [← hR, ← hV]
  clear hR hasc hV
  have HTD := Lib.hid (fun M W hW hM => toldr_any M T sv lv now W hW hM hl)
  have H := Lib.hid h
  obtain ⟨D, hD⟩ : ∃ D, D = w.heap.size := ⟨_, rfl⟩
  have HD := Lib.hid hD
  have HN := Lib.hid (hD ▸ hN)
  obtain ⟨U, hU⟩ : ∃ U, U = toldT T now := ⟨_, rfl⟩
  obtain ⟨E0, hE0⟩ : ∃ E, E = toldE T now := ⟨_, rfl⟩
  have HU := Lib.hid hU
  have HE0 := Lib.hid hE0
  have HUL := Lib.hid (show U.lea.length ≤ 1000 ∧ U.ses = T.ses ∧ U.lf = T.lf ∧ U.ls = T.ls by
    rw [hU]
    have := toldT_len T now
    exact ⟨by omega, this.2⟩)
  unfold RM1
  rw [← hD]
  rw [← hU, ← hE0] at HTD
  obtain ⟨⟨SA, sc, rfl, _⟩, A, c, rfl, _⟩ := h
  clear hU hE0 hN hl
  go_enter Tryz.func44, Tryz.ntmps44
  go_wp2_with fail
  rw [← hD]
  generalize hw2 : World.alloc _ _ = w2
  have X2 := Lib.hid (show RBox D w [.int .i64 T.now, .int .i64 T.ls, .int .i64 T.lf, .slice SA T.ses.length sc, .slice A T.lea.length c] [.int .i64 0, .int .i64 0, .int .i64 0, .slice none 0 0, .slice none 0 0] w2 by rw [← hw2]; exact RBox.start hD)
  have N2 := Lib.hid (H.out.box HD.out X2.out.bel)
  clear hw2 hD
  refine (HTD.out (NX N D) w2 N2.out (NX.lt X2.out HN.out)).mono ?_
  rintro e w3 ⟨⟨su, lu, rfl, hn3⟩, hb⟩
  have X3 := Lib.hid (X2.out.ext hb)
  have N3 := Lib.hid hn3
  have hM3 := NX.lt X3.out HN.out
  have HM3 := Lib.hid hM3
  obtain ⟨⟨SB, sb, rfl, _, hsb, hsm, _⟩, LB, lb, rfl, _, hlb, hlm, _⟩ := hn3
  clear hb N2 X2 HTD hM3
  have q := X3.out.box.cell
  have y := X3.out.box.free
  have q1 := X3.out.res.cell
  have y1 := X3.out.res.free
  have hlt := X3.out.lt
  have HT := Lib.hid (show V = U from HV0.out.trans HU.out.symm)
  by_cases h0 : E0 = 0
  · have HV := Lib.hid (show R = if mineI U ses reel fen < 0 then 18 else 0 by rw [HR.out, HU.out]; exact heldE_yes (HE0.out ▸ h0))
    subst h0
    have HMI := Lib.hid (fun W (hW : RefT U (.slice SB U.ses.length sb) (.slice LB U.lea.length lb) W) => mine_any U _ _ ses reel fen W hW (HU.out ▸ HAS.out) HUL.out.1)
    generalize mineI U ses reel fen = m at *
    go_wp2_with fail
    generalize hw4 : World.setCell _ _ _ = w4
    have X4 := Lib.hid (show RBox D w [Value.int .i64 U.now, Value.int .i64 U.ls, Value.int .i64 U.lf, Value.slice SB U.ses.length sb, Value.slice LB U.lea.length lb] _ w4 by rw [← hw4]; exact (((((X3.out.setB 0 _).setB 1 _).setB 2 _).setB 3 _).setB 4 _))
    have N4 := Lib.hid (show RefN (NX N D) U _ _ w4 by rw [← hw4]; exact (((((N3.out.putB 0 _).putB 1 _).putB 2 _).putB 3 _).putB 4 _))
    have HM4 := Lib.hid (NX.lt X4.out HN.out)
    clear hw4 q y q1 y1 hlt
    refine (HMI.out w4 N4.out.ref).mono ?_
    rintro e w5 ⟨rfl, hb5⟩
    have X5 := Lib.hid (X4.out.ext hb5)
    have N5 := Lib.hid (N4.out.ext hb5)
    clear hb5
    have q := X5.out.box.cell
    have y := X5.out.box.free
    have q1 := X5.out.res.cell
    have y1 := X5.out.res.free
    have hlt := X5.out.lt
    by_cases hm : m < 0
    · have HY := Lib.hid (show R = 18 by rw [HV.out, if_pos hm])
      go_wp2_with (with_reducible refine stop_at ?_)
      unfold StopAt
      clear q y q1 y1
      generalize hw9 : World.setCell _ _ _ = w9
      have X9 := Lib.hid (show RBox D w _ [Value.int .i64 U.now, Value.int .i64 U.ls, Value.int .i64 U.lf, Value.slice SB U.ses.length sb, Value.slice LB U.lea.length lb] w9 by rw [← hw9]; exact ((((X5.out.setR 0 _).setR 1 _).setR 2 _).setR 3 _).setR 4 _)
      have N9 := Lib.hid (show RefN (NX N D) _ _ _ w9 by rw [← hw9]; exact ((((N5.out.putR 0 _).putR 1 _).putR 2 _).putR 3 _).putR 4 _)
      have r0 : w9.cell? ⟨D + 1, 0, none⟩ = some (Value.int .i64 U.now) := X9.out.res.cell 0
      have r1 : w9.cell? ⟨D + 1, 1, none⟩ = some (Value.int .i64 U.ls) := X9.out.res.cell 1
      have r2 : w9.cell? ⟨D + 1, 2, none⟩ = some (Value.int .i64 U.lf) := X9.out.res.cell 2
      have r3 : w9.cell? ⟨D + 1, 3, none⟩ = some (Value.slice SB U.ses.length sb) := X9.out.res.cell 3
      have r4 : w9.cell? ⟨D + 1, 4, none⟩ = some (Value.slice LB U.lea.length lb) := X9.out.res.cell 4
      refine bodyPost_ret (by simp [results, Tryz.results44, r0, r1, r2, r3, r4, go_sem]; try rfl) rfl ?_
      rw [HY.out, HT.out]
      exact ⟨⟨_, _, rfl, N9.out.unbox⟩, X9.out.bel⟩
    · have HY := Lib.hid (show R = 0 by rw [HV.out, if_neg hm])
      have hm0 : 0 ≤ m := by omega
      go_wp2_with (with_reducible refine stop_at ?_)
      unfold StopAt
      clear q y q1 y1
      generalize hw9 : World.setCell _ _ _ = w9
      have X9 := Lib.hid (show RBox D w _ [Value.int .i64 U.now, Value.int .i64 U.ls, Value.int .i64 U.lf, Value.slice SB U.ses.length sb, Value.slice LB U.lea.length lb] w9 by rw [← hw9]; exact ((((X5.out.setR 0 _).setR 1 _).setR 2 _).setR 3 _).setR 4 _)
      have N9 := Lib.hid (show RefN (NX N D) _ _ _ w9 by rw [← hw9]; exact ((((N5.out.putR 0 _).putR 1 _).putR 2 _).putR 3 _).putR 4 _)
      have r0 : w9.cell? ⟨D + 1, 0, none⟩ = some (Value.int .i64 U.now) := X9.out.res.cell 0
      have r1 : w9.cell? ⟨D + 1, 1, none⟩ = some (Value.int .i64 U.ls) := X9.out.res.cell 1
      have r2 : w9.cell? ⟨D + 1, 2, none⟩ = some (Value.int .i64 U.lf) := X9.out.res.cell 2
      have r3 : w9.cell? ⟨D + 1, 3, none⟩ = some (Value.slice SB U.ses.length sb) := X9.out.res.cell 3
      have r4 : w9.cell? ⟨D + 1, 4, none⟩ = some (Value.slice LB U.lea.length lb) := X9.out.res.cell 4
      refine bodyPost_ret (by simp [results, Tryz.results44, r0, r1, r2, r3, r4, go_sem]; try rfl) rfl ?_
      rw [HY.out, HT.out]
      exact ⟨⟨_, _, rfl, N9.out.unbox⟩, X9.out.bel⟩
  · have HY := Lib.hid (show R = E0 by rw [HR.out, HE0.out]; exact heldE_no (HE0.out ▸ h0))
    have t0 : (E0 == 0) = false := beq_eq_false_iff_ne.2 h0
    clear h0
    go_wp2_with (with_reducible refine stop_at ?_)
    unfold StopAt
    clear q y q1 y1
    generalize hw9 : World.setCell _ _ _ = w9
    have X9 := Lib.hid (show RBox D w _ [Value.int .i64 U.now, Value.int .i64 U.ls, Value.int .i64 U.lf, Value.slice SB U.ses.length sb, Value.slice LB U.lea.length lb] w9 by rw [← hw9]; exact (((((((((X3.out.setB 0 _).setB 1 _).setB 2 _).setB 3 _).setB 4 _).setR 0 _).setR 1 _).setR 2 _).setR 3 _).setR 4 _)
    have N9 := Lib.hid (show RefN (NX N D) _ _ _ w9 by rw [← hw9]; exact (((((((((N3.out.putB 0 _).putB 1 _).putB 2 _).putB 3 _).putB 4 _).putR 0 _).putR 1 _).putR 2 _).putR 3 _).putR 4 _)
    have r0 : w9.cell? ⟨D + 1, 0, none⟩ = some (Value.int .i64 U.now) := X9.out.res.cell 0
    have r1 : w9.cell? ⟨D + 1, 1, none⟩ = some (Value.int .i64 U.ls) := X9.out.res.cell 1
    have r2 : w9.cell? ⟨D + 1, 2, none⟩ = some (Value.int .i64 U.lf) := X9.out.res.cell 2
    have r3 : w9.cell? ⟨D + 1, 3, none⟩ = some (Value.slice SB U.ses.length sb) := X9.out.res.cell 3
    have r4 : w9.cell? ⟨D + 1, 4, none⟩ = some (Value.slice LB U.lea.length lb) := X9.out.res.cell 4
    refine bodyPost_ret (by simp [results, Tryz.results44, r0, r1, r2, r3, r4, go_sem]; try rfl) rfl ?_
    rw [HY.out, HT.out]
    exact ⟨⟨_, _, rfl, N9.out.unbox⟩, X9.out.bel⟩
end Go.Proofs.YtneiljaknmeagaaGreatDoor
