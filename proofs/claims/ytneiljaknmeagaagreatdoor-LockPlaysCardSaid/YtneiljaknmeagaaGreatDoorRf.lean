/-
  The contract of Take in the reference. Its conditions are its hypotheses.
-/
import Derived.Test.YtneiljaknmeagaaGreatDoorRe
import Derived.Test.YtneiljaknmeagaaGreatDoorM3
import Derived.Test.YtneiljaknmeagaaGreatDoorQg
import Derived.Test.YtneiljaknmeagaaGreatDoorK8
import Derived.BigRegion
namespace Go.Proofs.YtneiljaknmeagaaGreatDoor
open Go.RowKit Go.Joins
set_option linter.unusedVariables false
set_option linter.unusedSimpArgs false
theorem hold_live {U : Tb} {now : Int} {reel : List UInt8} (hall : ∀ x ∈ U.lea, now < x.unt) : holdV U now reel = if fhas reel U.lea = true then ((U.lea[fpos reel U.lea]?).getD ls0, true) else (ls0, false) := by
  unfold holdV
  split
  · rename_i hh
    obtain ⟨x, hx, hr⟩ := fhas_some hh
    rw [hx]
    show (if x.unt ≤ now then (ls0, false) else (x, true)) = (x, true)
    rw [if_neg (by have := hall x (List.mem_of_getElem? hx); omega)]
  · rfl
theorem told_live {T : Tb} {now : Int} (h : toldE T now = 0) : ∀ x ∈ (toldT T now).lea, now < x.unt := by
  intro x hx
  unfold toldT at hx
  rw [if_pos h] at hx
  exact of_decide_eq_true (List.mem_filter.1 hx).2
/-- What has been gathered behind k leases. -/
def insTo (p : Nat) (x : Ls) (L : List Ls) (k : Nat) : List Ls := if k ≤ p then L.take k else L.take p ++ x :: (L.take k).drop p
theorem insTo_low {p k : Nat} {x y : Ls} {L : List Ls} (hk : L[k]? = some y) (h : k < p) : insTo p x L (k + 1) = insTo p x L k ++ [y] := by
  unfold insTo
  rw [if_pos (by omega), if_pos (by omega), List.take_add_one, hk]
  rfl
theorem insTo_at {p : Nat} {x y : Ls} {L : List Ls} (hk : L[p]? = some y) : insTo p x L (p + 1) = insTo p x L p ++ [x] ++ [y] := by
  have hl := (List.getElem?_eq_some_iff.1 hk).1
  unfold insTo
  rw [if_neg (by omega), if_pos (Nat.le_refl _), List.take_add_one, hk, List.drop_append_of_le_length (by rw [List.length_take]; omega)]
  simp
theorem insTo_high {p k : Nat} {x y : Ls} {L : List Ls} (hk : L[k]? = some y) (h : p < k) : insTo p x L (k + 1) = insTo p x L k ++ [y] := by
  have hl := (List.getElem?_eq_some_iff.1 hk).1
  unfold insTo
  rw [if_neg (by omega), if_neg (by omega), List.take_add_one, hk, List.drop_append_of_le_length (by rw [List.length_take]; omega)]
  simp
theorem insTo_len {p k : Nat} {x : Ls} {L : List Ls} (hk : k ≤ L.length) : (insTo p x L k).length ≤ k + 1 := by
  unfold insTo
  split
  · rw [List.length_take]; omega
  · simp only [List.length_append, List.length_cons, List.length_drop, List.length_take]; omega
set_option maxRecDepth 100000 in
set_option maxHeartbeats 2000000 in
theorem taker_any (N : Nat → Prop) (T : Tb) (sv lv : Value) (now ses : Int) (reel : List UInt8) (w : World) (h : RefN N T sv lv w) (hN : ∀ b, N b → b < w.heap.size) (hasc : Asc T.lea) (hl : T.lea.length ≤ 1000) (hsl : T.ses.length ≤ 1000) (h0 : 0 ≤ T.lf) (h1 : T.lf ≤ 1000000000) :
    Calls Tryz.prog 39 #[refV T sv lv, .int .i64 now, .int .i64 ses, .string (sB reel)] w (RM2 N w (takeR T now ses reel).1 (.int .i64 (takeR T now ses reel).2.1) (.int .i64 (takeR T now ses reel).2.2)) := by
  obtain ⟨i0, hi, hz0, hz1, hz2⟩ := info_parts infoL
  have HI0 := Lib.hid (And.intro hi (And.intro hz0 (And.intro hz1 hz2)))
  clear hi hz0 hz1 hz2
  obtain ⟨R1, hR1⟩ : ∃ R, R = (takeR T now ses reel).2.1 := ⟨_, rfl⟩
  obtain ⟨R2, hR2⟩ : ∃ R, R = (takeR T now ses reel).2.2 := ⟨_, rfl⟩
  obtain ⟨V, hV⟩ : ∃ V, V = (takeR T now ses reel).1 := ⟨_, rfl⟩
  have HR1 := Lib.hid hR1
  have HR2 := Lib.hid hR2
  have HV := Lib.hid hV
  rw [← hR1, ← hR2, ← hV]
  unfold takeR at HR1 HR2 HV
  have HAS := Lib.hid (toldT_asc hasc now)
  have HLV := Lib.hid (told_live (T := T) (now := now))
  have HTZ := Lib.hid (toldE_zero (T := T) (now := now))
  have HLF := Lib.hid (And.intro h0 h1)
  clear hR1 hR2 hV hasc h0 h1
  have HTD := Lib.hid (fun M W hW hM => toldr_any M T sv lv now W hW hM hl)
  have H := Lib.hid h
  obtain ⟨D, hD⟩ : ∃ D, D = w.heap.size := ⟨_, rfl⟩
  have HD := Lib.hid hD
  have HN := Lib.hid (hD ▸ hN)
  obtain ⟨U, hU⟩ : ∃ U, U = toldT T now := ⟨_, rfl⟩
  obtain ⟨E0, hE0⟩ : ∃ E, E = toldE T now := ⟨_, rfl⟩
  have HU := Lib.hid hU
  have HE0 := Lib.hid hE0
  have HUL := Lib.hid (show U.lea.length ≤ 1000 ∧ U.ses = T.ses ∧ U.lf = T.lf ∧ U.ls = T.ls by
    rw [hU]
    have := toldT_len T now
    exact ⟨by omega, this.2⟩)
  have HUS := Lib.hid (show U.ses.length ≤ 1000 by rw [HUL.out.2.1]; exact hsl)
  rw [← hU, ← hE0] at HR1 HR2 HV
  rw [← hU] at HAS
  rw [← hU, ← hE0] at HLV
  rw [← hE0] at HTZ
  clear hsl
  unfold RM2
  rw [← hD]
  rw [← hU, ← hE0] at HTD
  obtain ⟨⟨SA, sc, rfl, _⟩, A, c, rfl, _⟩ := h
  clear hU hE0 hN hl
  go_enter Tryz.func39, Tryz.ntmps39
  go_wp2_with fail
  rw [← hD]
  generalize hw2 : World.alloc _ _ = w2
  have X2 := Lib.hid (show RBox D w [.int .i64 T.now, .int .i64 T.ls, .int .i64 T.lf, .slice SA T.ses.length sc, .slice A T.lea.length c] [.int .i64 0, .int .i64 0, .int .i64 0, .slice none 0 0, .slice none 0 0] w2 by rw [← hw2]; exact RBox.start hD)
  have N2 := Lib.hid (H.out.box HD.out X2.out.bel)
  clear hw2 hD
  refine (HTD.out (NX N D) w2 N2.out (NX.lt X2.out HN.out)).mono ?_
  rintro e w3 ⟨⟨su, lu, rfl, hn3⟩, hb⟩
  have X3 := Lib.hid (X2.out.ext hb)
  have N3 := Lib.hid hn3
  have hM3 := NX.lt X3.out HN.out
  have HM3 := Lib.hid hM3
  obtain ⟨⟨SB, sb, rfl, _, hsb, hsm, _⟩, LB, lb, rfl, _, hlb, hlm, _⟩ := hn3
  clear hb N2 X2 HTD hM3
  have q := X3.out.box.cell
  have y := X3.out.box.free
  have q1 := X3.out.res.cell
  have y1 := X3.out.res.free
  have hlt := X3.out.lt
  by_cases h0 : E0 = 0
  · rw [if_pos h0] at HR1 HR2 HV
    subst h0
    obtain ⟨hn0, hn1, _⟩ := HTZ.out rfl
    have HALL := Lib.hid (HLV.out rfl)
    have HHO := Lib.hid (fun W (hW : RefT U (.slice SB U.ses.length sb) (.slice LB U.lea.length lb) W) => holdr_any U _ _ now reel W hW HAS.out HUL.out.1)
    rw [hold_live HALL.out] at HHO
    have HIS := Lib.hid (fun (b : Bool) (hb : b = decide (ses ∈ U.ses)) W (hW : RefT U (.slice SB U.ses.length sb) (.slice LB U.lea.length lb) W) => by
      obtain ⟨⟨A', c', e', h'⟩, _⟩ := hW
      cases e'
      exact is_any U SB sb (.slice LB U.lea.length lb) ses W h' (by have := HUS.out; omega) hb)
    go_wp2_with fail
    generalize hw4 : World.setCell _ _ _ = w4
    have X4 := Lib.hid (show RBox D w [Value.int .i64 U.now, Value.int .i64 U.ls, Value.int .i64 U.lf, Value.slice SB U.ses.length sb, Value.slice LB U.lea.length lb] _ w4 by rw [← hw4]; exact (((((X3.out.setB 0 _).setB 1 _).setB 2 _).setB 3 _).setB 4 _))
    have N4 := Lib.hid (show RefN (NX N D) U _ _ w4 by rw [← hw4]; exact (((((N3.out.putB 0 _).putB 1 _).putB 2 _).putB 3 _).putB 4 _))
    have HM4 := Lib.hid (NX.lt X4.out HN.out)
    clear hw4 q y q1 y1 hlt
    obtain ⟨r, hr⟩ : ∃ r, r = if fhas reel U.lea = true then ((U.lea[fpos reel U.lea]?).getD ls0, true) else (ls0, false) := ⟨_, rfl⟩
    rw [← hr] at HHO
    have HRR := Lib.hid hr
    clear hr
    obtain ⟨x, hd⟩ := r
    refine (HHO.out w4 N4.out.ref).mono ?_
    rintro e w5 ⟨rfl, hb5⟩
    have X5 := Lib.hid (X4.out.ext hb5)
    have N5 := Lib.hid (N4.out.ext hb5)
    clear hb5 HHO
    unfold lsA
    have q := X5.out.box.cell
    have y := X5.out.box.free
    have q1 := X5.out.res.cell
    have y1 := X5.out.res.free
    have hlt := X5.out.lt
    have hltd := X5.out.box.lt
    go_wp2_with fail
    clear q y q1 y1 hlt hltd
    obtain ⟨B12, hB12⟩ : ∃ B, B = w5.heap.size := ⟨_, rfl⟩
    rw [← hB12]
    generalize hw6 : World.alloc _ _ = w6
    have F6 := Lib.hid (show Held w6 B12 [.string (sB x.reel), .int .i64 x.ses, .int .i64 x.fen, .int .i64 x.unt] by rw [← hw6]; exact Held.new hB12)
    have B6 := Lib.hid (show Below w5.heap.size w5 w6 by rw [← hw6]; exact below_one _ _)
    have X6 := Lib.hid (X5.out.ext B6.out)
    have N6 := Lib.hid (N5.out.ext B6.out)
    clear hw6 hB12
    by_cases hin : ses ∈ U.ses
    · rw [if_pos hin] at HR1 HR2 HV
      refine (HIS.out true (decide_eq_true hin).symm w6 N6.out.ref).mono ?_
      rintro e w7 ⟨rfl, hb7⟩
      have X7 := Lib.hid (X6.out.ext hb7)
      have N7 := Lib.hid (N6.out.ext hb7)
      have F7 := Lib.hid (F6.out.ext hb7)
      clear hb7 HIS hin
      have q := X7.out.box.cell
      have y := X7.out.box.free
      have q1 := X7.out.res.cell
      have y1 := X7.out.res.free
      have hlt := X7.out.lt
      have hltd := X7.out.box.lt
      go_wp2_with fail
      clear q y q1 y1 hlt hltd
      refine (namer_any reel w7).mono ?_
      rintro e w8 ⟨rfl, hb8'⟩
      have hb8 : Below w7.heap.size w7 w8 := by rw [hb8']; exact Below.refl _ _
      clear hb8'
      have X8 := Lib.hid (X7.out.ext hb8)
      have N8 := Lib.hid (N7.out.ext hb8)
      have F8 := Lib.hid (F7.out.ext hb8)
      clear hb8
      have q := X8.out.box.cell
      have y := X8.out.box.free
      have q1 := X8.out.res.cell
      have y1 := X8.out.res.free
      have hlt := X8.out.lt
      have hltd := X8.out.box.lt
      have z := F8.out.cell
      have hlt12 := F8.out.lt
      cases hnm : nmB reel with
      | false =>
        rw [if_neg (by rw [hnm]; decide)] at HR1 HR2 HV
        clear hnm
        have HY1 := Lib.hid (show R1 = 0 from HR1.out)
        have HY2 := Lib.hid (show R2 = 5 from HR2.out)
        have HT := Lib.hid (show V = U from HV.out)
        go_wp2_with (with_reducible refine stop_at ?_)
        unfold StopAt
        clear q y q1 y1
        generalize hw9 : World.setCell _ _ _ = w9
        have X9 := Lib.hid (show RBox D w _ [Value.int .i64 U.now, Value.int .i64 U.ls, Value.int .i64 U.lf, Value.slice SB U.ses.length sb, Value.slice LB U.lea.length lb] w9 by rw [← hw9]; exact ((((X8.out.setR 0 _).setR 1 _).setR 2 _).setR 3 _).setR 4 _)
        have N9 := Lib.hid (show RefN (NX N D) _ _ _ w9 by rw [← hw9]; exact ((((N8.out.putR 0 _).putR 1 _).putR 2 _).putR 3 _).putR 4 _)
        have r0 : w9.cell? ⟨D + 1, 0, none⟩ = some (Value.int .i64 U.now) := X9.out.res.cell 0
        have r1 : w9.cell? ⟨D + 1, 1, none⟩ = some (Value.int .i64 U.ls) := X9.out.res.cell 1
        have r2 : w9.cell? ⟨D + 1, 2, none⟩ = some (Value.int .i64 U.lf) := X9.out.res.cell 2
        have r3 : w9.cell? ⟨D + 1, 3, none⟩ = some (Value.slice SB U.ses.length sb) := X9.out.res.cell 3
        have r4 : w9.cell? ⟨D + 1, 4, none⟩ = some (Value.slice LB U.lea.length lb) := X9.out.res.cell 4
        refine bodyPost_ret (by simp [results, Tryz.results39, r0, r1, r2, r3, r4, go_sem]; try rfl) rfl ?_
        rw [HY1.out, HY2.out, HT.out]
        exact ⟨⟨_, _, rfl, N9.out.unbox⟩, X9.out.bel⟩
      | true =>
        rw [if_pos hnm] at HR1 HR2 HV
        clear hnm
        by_cases hh : fhas reel U.lea = true
        · rw [if_pos hh] at HR1 HR2 HV
          have HX := Lib.hid (show (x, hd) = ((U.lea[fpos reel U.lea]?).getD ls0, true) by rw [HRR.out, if_pos hh])
          obtain rfl : hd = true := (Prod.mk.inj HX.out).2
          have HXS := Lib.hid (show U.lea[fpos reel U.lea]?.map Ls.ses = some x.ses by
            obtain ⟨x', hx', _⟩ := fhas_some hh
            have h1 := (Prod.mk.inj HX.out).1
            rw [hx'] at h1 ⊢
            rw [h1]
            rfl)
          rw [HXS.out] at HR1 HR2 HV
          clear hh HRR
          by_cases hse : x.ses = ses
          · rw [if_pos (by rw [hse])] at HR1 HR2 HV
            have t1 : (x.ses == ses) = true := by simpa using hse
            clear hse
            have HY1 := Lib.hid (show R1 = 0 from HR1.out)
            have HY2 := Lib.hid (show R2 = 7 from HR2.out)
            have HT := Lib.hid (show V = U from HV.out)
            go_wp2_with (with_reducible refine stop_at ?_)
            unfold StopAt
            clear q y q1 y1
            generalize hw9 : World.setCell _ _ _ = w9
            have X9 := Lib.hid (show RBox D w _ [Value.int .i64 U.now, Value.int .i64 U.ls, Value.int .i64 U.lf, Value.slice SB U.ses.length sb, Value.slice LB U.lea.length lb] w9 by rw [← hw9]; exact ((((X8.out.setR 0 _).setR 1 _).setR 2 _).setR 3 _).setR 4 _)
            have N9 := Lib.hid (show RefN (NX N D) _ _ _ w9 by rw [← hw9]; exact ((((N8.out.putR 0 _).putR 1 _).putR 2 _).putR 3 _).putR 4 _)
            have r0 : w9.cell? ⟨D + 1, 0, none⟩ = some (Value.int .i64 U.now) := X9.out.res.cell 0
            have r1 : w9.cell? ⟨D + 1, 1, none⟩ = some (Value.int .i64 U.ls) := X9.out.res.cell 1
            have r2 : w9.cell? ⟨D + 1, 2, none⟩ = some (Value.int .i64 U.lf) := X9.out.res.cell 2
            have r3 : w9.cell? ⟨D + 1, 3, none⟩ = some (Value.slice SB U.ses.length sb) := X9.out.res.cell 3
            have r4 : w9.cell? ⟨D + 1, 4, none⟩ = some (Value.slice LB U.lea.length lb) := X9.out.res.cell 4
            refine bodyPost_ret (by simp [results, Tryz.results39, r0, r1, r2, r3, r4, go_sem]; try rfl) rfl ?_
            rw [HY1.out, HY2.out, HT.out]
            exact ⟨⟨_, _, rfl, N9.out.unbox⟩, X9.out.bel⟩
          · rw [if_neg (fun e => hse (Option.some.inj e))] at HR1 HR2 HV
            have t1 : (x.ses == ses) = false := by simpa using hse
            clear hse
            have HY1 := Lib.hid (show R1 = 0 from HR1.out)
            have HY2 := Lib.hid (show R2 = 18 from HR2.out)
            have HT := Lib.hid (show V = U from HV.out)
            go_wp2_with (with_reducible refine stop_at ?_)
            unfold StopAt
            clear q y q1 y1
            generalize hw9 : World.setCell _ _ _ = w9
            have X9 := Lib.hid (show RBox D w _ [Value.int .i64 U.now, Value.int .i64 U.ls, Value.int .i64 U.lf, Value.slice SB U.ses.length sb, Value.slice LB U.lea.length lb] w9 by rw [← hw9]; exact ((((X8.out.setR 0 _).setR 1 _).setR 2 _).setR 3 _).setR 4 _)
            have N9 := Lib.hid (show RefN (NX N D) _ _ _ w9 by rw [← hw9]; exact ((((N8.out.putR 0 _).putR 1 _).putR 2 _).putR 3 _).putR 4 _)
            have r0 : w9.cell? ⟨D + 1, 0, none⟩ = some (Value.int .i64 U.now) := X9.out.res.cell 0
            have r1 : w9.cell? ⟨D + 1, 1, none⟩ = some (Value.int .i64 U.ls) := X9.out.res.cell 1
            have r2 : w9.cell? ⟨D + 1, 2, none⟩ = some (Value.int .i64 U.lf) := X9.out.res.cell 2
            have r3 : w9.cell? ⟨D + 1, 3, none⟩ = some (Value.slice SB U.ses.length sb) := X9.out.res.cell 3
            have r4 : w9.cell? ⟨D + 1, 4, none⟩ = some (Value.slice LB U.lea.length lb) := X9.out.res.cell 4
            refine bodyPost_ret (by simp [results, Tryz.results39, r0, r1, r2, r3, r4, go_sem]; try rfl) rfl ?_
            rw [HY1.out, HY2.out, HT.out]
            exact ⟨⟨_, _, rfl, N9.out.unbox⟩, X9.out.bel⟩
        · rw [if_neg hh] at HR1 HR2 HV
          have HHN := Lib.hid (show fhas reel U.lea = false by simpa using hh)
          obtain ⟨rfl, rfl⟩ : x = ls0 ∧ hd = false := by
            have := HRR.out
            rw [if_neg hh] at this
            exact Prod.mk.inj this
          clear hh HRR
          by_cases h16 : 16 ≤ U.lea.length
          · rw [if_pos h16] at HR1 HR2 HV
            have t2 : (16 : Int) ≤ (U.lea.length : Int) := by omega
            have HY1 := Lib.hid (show R1 = 0 from HR1.out)
            have HY2 := Lib.hid (show R2 = 9 from HR2.out)
            have HT := Lib.hid (show V = U from HV.out)
            go_wp2_with (with_reducible refine stop_at ?_)
            unfold StopAt
            clear q y q1 y1
            generalize hw9 : World.setCell _ _ _ = w9
            have X9 := Lib.hid (show RBox D w _ [Value.int .i64 U.now, Value.int .i64 U.ls, Value.int .i64 U.lf, Value.slice SB U.ses.length sb, Value.slice LB U.lea.length lb] w9 by rw [← hw9]; exact ((((X8.out.setR 0 _).setR 1 _).setR 2 _).setR 3 _).setR 4 _)
            have N9 := Lib.hid (show RefN (NX N D) _ _ _ w9 by rw [← hw9]; exact ((((N8.out.putR 0 _).putR 1 _).putR 2 _).putR 3 _).putR 4 _)
            have r0 : w9.cell? ⟨D + 1, 0, none⟩ = some (Value.int .i64 U.now) := X9.out.res.cell 0
            have r1 : w9.cell? ⟨D + 1, 1, none⟩ = some (Value.int .i64 U.ls) := X9.out.res.cell 1
            have r2 : w9.cell? ⟨D + 1, 2, none⟩ = some (Value.int .i64 U.lf) := X9.out.res.cell 2
            have r3 : w9.cell? ⟨D + 1, 3, none⟩ = some (Value.slice SB U.ses.length sb) := X9.out.res.cell 3
            have r4 : w9.cell? ⟨D + 1, 4, none⟩ = some (Value.slice LB U.lea.length lb) := X9.out.res.cell 4
            refine bodyPost_ret (by simp [results, Tryz.results39, r0, r1, r2, r3, r4, go_sem]; try rfl) rfl ?_
            rw [HY1.out, HY2.out, HT.out]
            exact ⟨⟨_, _, rfl, N9.out.unbox⟩, X9.out.bel⟩
          · rw [if_neg h16] at HR1 HR2 HV
            have t2 : ¬ (16 : Int) ≤ (U.lea.length : Int) := by omega
            have hlf0 : 0 ≤ U.lf := by rw [HUL.out.2.2.1]; exact HLF.out.1
            have hlf1 : U.lf ≤ 1000000000 := by rw [HUL.out.2.2.1]; exact HLF.out.2
            have hl1000 : U.lea.length ≤ 1000 := HUL.out.1
            have hlb' : lb ≤ 9223372036854775807 := by simpa [maxLen] using hlm
            have HRL := Lib.hid (show LeasAt w8 LB U.lea by
              obtain ⟨_, A', c', e', hr', _⟩ := N8.out
              cases e'
              exact hr'.row)
            have HM8 := Lib.hid (NX.lt X8.out HN.out)
            have HY1 := Lib.hid (show R1 = U.lf + 1 from HR1.out)
            have HY2 := Lib.hid (show R2 = 0 from HR2.out)
            have HT0 := Lib.hid (show V = { U with lf := U.lf + 1, lea := takeL U ses reel now } from HV.out)
            go_wp2_with fail
            clear q y q1 y1 z hltd hlt hlt12
            obtain ⟨B14, hB14⟩ : ∃ B, B = w8.heap.size := ⟨_, rfl⟩
            rw [← hB14]
            generalize hwA : World.alloc _ _ = wA
            have FA := Lib.hid (show Held wA B14 [.string (sB reel), .int .i64 ses, .int .i64 (U.lf + 1), .int .i64 (now + 600)] by rw [← hwA]; exact Held.new (by simpa using hB14))
            have XA := Lib.hid (show RBox D w [.int .i64 U.now, .int .i64 U.ls, .int .i64 (U.lf + 1), .slice SB U.ses.length sb, .slice LB U.lea.length lb] _ wA by rw [← hwA]; exact (X8.out.setB 2 _).ext (below_one _ _))
            have NA := Lib.hid (show RefN (NX N D) U _ _ wA by rw [← hwA]; exact (N8.out.putB 2 _).ext (below_one _ _))
            have HRA := Lib.hid (show LeasAt wA LB U.lea by
              obtain ⟨_, A', c', e', hr', _⟩ := NA.out
              cases e'
              exact hr'.row)
            have HMA := Lib.hid (NX.lt XA.out HN.out)
            obtain ⟨p, hp⟩ : ∃ p, p = fpos reel U.lea := ⟨_, rfl⟩
            obtain ⟨x0, hx0⟩ : ∃ x0 : Ls, x0 = ⟨reel, ses, U.lf + 1, now + 600⟩ := ⟨_, rfl⟩
            have HX0 := Lib.hid (show (lsV x0) = [.string (sB reel), .int .i64 ses, .int .i64 (U.lf + 1), .int .i64 (now + 600)] by rw [hx0]; rfl)
            have HPL := Lib.hid (show p ≤ U.lea.length by rw [hp]; exact fpos_le _ _)
            have HLOW := Lib.hid (show ∀ (m : Nat) (y : Ls), m < p → U.lea[m]? = some y → cmpB y.reel reel < 0 from fun m y hm hy => fpos_lt (by rw [← hp]; exact hm) hy)
            have HHIGH := Lib.hid (show ∀ (m : Nat) (y : Ls), p ≤ m → U.lea[m]? = some y → cmpB reel y.reel < 0 from fun m y hm hy => fpos_gt HAS.out HHN.out (by rw [← hp]; exact hm) hy)
            have HTK := Lib.hid (show takeL U ses reel now = U.lea.take p ++ x0 :: U.lea.drop p by unfold takeL; rw [hx0, hp])
            clear hwA hB14 hp hx0 t2 h16 HR1 HR2 HV
            go_loopw [15, 16, 79] (fun o d i wr => ∃ (k : Nat) (ov : Value), ov = o ∧ d = .bool (decide (p < k)) ∧ k ≤ U.lea.length ∧ i = .int .i64 k ∧ Hid (wr.ownsRow wA.heap.size 49 4 ov (insTo p x0 U.lea k).length ((insTo p x0 U.lea k).flatMap lsV)) ∧ Hid (Below wA.heap.size wA wr)) (fun _ _ i _ => U.lea.length - (intOf i).toNat)
            case atStart => exact ⟨0, _, rfl, by simp, by omega, rfl, Lib.hid (by rw [show insTo p x0 U.lea 0 = [] by unfold insTo; simp]; exact World.ownsRow_nil _ _ _ _), Lib.hid (Below.refl _ _)⟩
            case round =>
              obtain ⟨k, ov, rfl, rfl, hk, rfl, HO, G⟩ := hrel
              have hDw : wA.heap.size ≤ wr.heap.size := G.out.size
              have FW := Lib.hid (FA.out.ext G.out)
              by_cases hltk : k < U.lea.length
              · have hlt2 : (k : Int) < (U.lea.length : Int) := by omega
                obtain ⟨y, hy⟩ : ∃ y, U.lea[k]? = some y := ⟨_, List.getElem?_eq_getElem hltk⟩
                have HX := Lib.hid hy
                have HRw : LeasAt wr LB U.lea := RowAt.below HRA.out G.out (Nat.le_refl _)
                obtain ⟨g, o, rfl⟩ := LeasAt.some HRw hy
                obtain ⟨q0, q1, q2, q3⟩ := LeasAt.get HRw hy
                have hb1 : (insTo p x0 U.lea k).length ≤ 1001 := by have := insTo_len (p := p) (x := x0) hk; omega
                have z14 := FW.out.cell
                have l14 := FW.out.lt
                clear HRw hy
                rcases Nat.lt_trichotomy k p with hkp | hkp | hkp
                · have HS := Lib.hid (show insTo p x0 U.lea (k + 1) = insTo p x0 U.lea k ++ [y] from insTo_low HX.out hkp)
                  have d0 : decide (p < k) = false := decide_eq_false (by omega)
                  have HD1 := Lib.hid (show decide (p < k + 1) = false from decide_eq_false (by omega))
                  rw [d0]
                  have t1 : Go.Op.bytesLess (sB y.reel).toList (sB reel).toList = true := by rw [Lib.toList_data, Lib.toList_data, sB_list, sB_list, less_cmp]; exact decide_eq_true (HLOW.out k y hkp HX.out)
                  clear hkp
                  generalize insTo p x0 U.lea k = M at *
                  go_wp2_with (at_builtin; go_loud (refine wpList_append_own _ rfl _ _ 28 rfl wA.heap.size 49 i0 (.agg #[.string ⟨#[]⟩, .int .i64 0, .int .i64 0, .int .i64 0]) 4 40 Tryz.underlying28 HI0.out.1 HI0.out.2.1 HI0.out.2.2.1 HI0.out.2.2.2 rfl (by decide) ov M.length (M.flatMap lsV) rfl ((HO.out.alloc _).alloc _) ⟨wr.heap.size + 1, 0, none⟩ 1 1 (lsV y) rfl rfl (CellsAt.all (by simp [CellsAt, go_sem, lsV])) (by simp [Value.oneCell', lsV]) (by simp only [maxLen]; omega) (by omega) (by simp; omega) ?_))
                  intro o' w5 ho hgr _
                  have G6 := Lib.hid (show Below wA.heap.size wA w5 from (((G.out.alloc hDw _).alloc (by simp; omega) _).grown hgr (by simp; omega) (own_base HO.out)))
                  have HO6 := Lib.hid (show w5.ownsRow wA.heap.size 49 4 o' (M ++ [y]).length ((M ++ [y]).flatMap lsV) by
                    rw [List.flatMap_append, List.length_append]
                    simpa using ho)
                  rw [← HS.out] at HO6
                  clear ho hgr
                  go_wp2_with fail
                  go_roundw
                  case rel => exact ⟨k + 1, _, rfl, by rw [HD1.out], by omega, by go_num, HO6, G6⟩
                  case measure => simp [intOf]; omega
                · obtain rfl : p = k := hkp.symm
                  have HS := Lib.hid (show insTo p x0 U.lea (p + 1) = insTo p x0 U.lea p ++ [x0] ++ [y] from insTo_at HX.out)
                  have d0 : decide (p < p) = false := decide_eq_false (Nat.lt_irrefl _)
                  have HD1 := Lib.hid (show decide (p < p + 1) = true from decide_eq_true (Nat.lt_succ_self _))
                  rw [d0]
                  have hcc := HHIGH.out p y (Nat.le_refl _) HX.out
                  have t1 : Go.Op.bytesLess (sB y.reel).toList (sB reel).toList = false := by rw [Lib.toList_data, Lib.toList_data, sB_list, sB_list, less_cmp]; exact decide_eq_false (by rw [cmp_anti] at hcc; omega)
                  have t3 : ((sB y.reel).toList == (sB reel).toList) = false := (str_eq y.reel reel).trans (decide_eq_false (fun e => by rw [e, cmp_self] at hcc; omega))
                  clear hcc
                  generalize insTo p x0 U.lea p = M at *
                  go_wp2_with (at_builtin; go_loud (refine wpList_append_own _ rfl _ _ 28 rfl wA.heap.size 49 i0 (.agg #[.string ⟨#[]⟩, .int .i64 0, .int .i64 0, .int .i64 0]) 4 40 Tryz.underlying28 HI0.out.1 HI0.out.2.1 HI0.out.2.2.1 HI0.out.2.2.2 rfl (by decide) ov M.length (M.flatMap lsV) rfl ((HO.out.alloc _).alloc _) ⟨wr.heap.size + 1, 0, none⟩ 1 1 (lsV x0) rfl rfl (by rw [HX0.out]; exact CellsAt.all (by simp [CellsAt, go_sem])) (by rw [HX0.out]; simp [Value.oneCell']) (by simp only [maxLen]; omega) (by omega) (by simp; omega) ?_))
                  intro o' w5 ho hgr _
                  have G6 := Lib.hid (show Below wA.heap.size wA w5 from (((G.out.alloc hDw _).alloc (by simp; omega) _).grown hgr (by simp; omega) (own_base HO.out)))
                  have HO6 := Lib.hid (show w5.ownsRow wA.heap.size 49 4 o' (M ++ [x0]).length ((M ++ [x0]).flatMap lsV) by
                    rw [List.flatMap_append, List.length_append]
                    simpa using ho)
                  obtain ⟨b18, hb18⟩ : ∃ b, b = wr.heap.size := ⟨_, rfl⟩
                  have F18 := Lib.hid (show Held w5 b18 [.string (sB y.reel), .int .i64 y.ses, .int .i64 y.fen, .int .i64 y.unt] from by
                    have h1 : Held ((wr.alloc (.cells #[.string (sB y.reel), .int .i64 y.ses, .int .i64 y.fen, .int .i64 y.unt] 49)).alloc (.cells #[.string (sB reel), .int .i64 ses, .int .i64 (U.lf + 1), .int .i64 (now + 600)] 49)) b18 [.string (sB y.reel), .int .i64 y.ses, .int .i64 y.fen, .int .i64 y.unt] := (Held.new hb18).alloc _
                    obtain ⟨t, ht⟩ := h1
                    exact ⟨t, (hgr.block b18 (by rw [hb18]; simp; omega) (fun e => by have := (HO.out.lt b18 e.symm).2; omega)).trans ht⟩)
                  have hb2 : (M ++ [x0]).length ≤ 1002 := by rw [List.length_append, List.length_singleton]; omega
                  have hDw5 : wA.heap.size ≤ w5.heap.size := G6.out.size
                  have c18 := F18.out.cell
                  have l18 := F18.out.lt
                  rw [← hb18]
                  clear ho hgr hb18 q0 q1 q2 q3
                  go_wp2_with (at_builtin; go_loud (refine wpList_append_own _ rfl _ _ 28 rfl wA.heap.size 49 i0 (.agg #[.string ⟨#[]⟩, .int .i64 0, .int .i64 0, .int .i64 0]) 4 40 Tryz.underlying28 HI0.out.1 HI0.out.2.1 HI0.out.2.2.1 HI0.out.2.2.2 rfl (by decide) o' (M ++ [x0]).length ((M ++ [x0]).flatMap lsV) rfl (HO6.out.alloc _) ⟨w5.heap.size, 0, none⟩ 1 1 (lsV y) rfl rfl (CellsAt.all (by simp [CellsAt, go_sem, lsV])) (by simp [Value.oneCell', lsV]) (by simp only [maxLen]; omega) (by omega) (by simp; omega) ?_))
                  intro o2 w6 ho hgr _
                  have G7 := Lib.hid (show Below wA.heap.size wA w6 from ((G6.out.alloc hDw5 _).grown hgr (by simp; omega) (own_base HO6.out)))
                  have HO7 := Lib.hid (show w6.ownsRow wA.heap.size 49 4 o2 (M ++ [x0] ++ [y]).length ((M ++ [x0] ++ [y]).flatMap lsV) by
                    rw [List.flatMap_append, List.length_append]
                    simpa using ho)
                  rw [← HS.out] at HO7
                  clear ho hgr
                  go_wp2_with fail
                  go_roundw
                  case rel => exact ⟨p + 1, _, rfl, by rw [HD1.out], by omega, by go_num, HO7, G7⟩
                  case measure => simp [intOf]; omega
                · have HS := Lib.hid (show insTo p x0 U.lea (k + 1) = insTo p x0 U.lea k ++ [y] from insTo_high HX.out hkp)
                  have d0 : decide (p < k) = true := decide_eq_true hkp
                  have HD1 := Lib.hid (show decide (p < k + 1) = true from decide_eq_true (by omega))
                  rw [d0]
                  clear hkp
                  generalize insTo p x0 U.lea k = M at *
                  go_wp2_with (at_builtin; go_loud (refine wpList_append_own _ rfl _ _ 28 rfl wA.heap.size 49 i0 (.agg #[.string ⟨#[]⟩, .int .i64 0, .int .i64 0, .int .i64 0]) 4 40 Tryz.underlying28 HI0.out.1 HI0.out.2.1 HI0.out.2.2.1 HI0.out.2.2.2 rfl (by decide) ov M.length (M.flatMap lsV) rfl ((HO.out.alloc _).alloc _) ⟨wr.heap.size + 1, 0, none⟩ 1 1 (lsV y) rfl rfl (CellsAt.all (by simp [CellsAt, go_sem, lsV])) (by simp [Value.oneCell', lsV]) (by simp only [maxLen]; omega) (by omega) (by simp; omega) ?_))
                  intro o' w5 ho hgr _
                  have G6 := Lib.hid (show Below wA.heap.size wA w5 from (((G.out.alloc hDw _).alloc (by simp; omega) _).grown hgr (by simp; omega) (own_base HO.out)))
                  have HO6 := Lib.hid (show w5.ownsRow wA.heap.size 49 4 o' (M ++ [y]).length ((M ++ [y]).flatMap lsV) by
                    rw [List.flatMap_append, List.length_append]
                    simpa using ho)
                  rw [← HS.out] at HO6
                  clear ho hgr
                  go_wp2_with fail
                  go_roundw
                  case rel => exact ⟨k + 1, _, rfl, by rw [HD1.out], by omega, by go_num, HO6, G6⟩
                  case measure => simp [intOf]; omega
              · obtain rfl : k = U.lea.length := by omega
                have hlen0 : (insTo p x0 U.lea U.lea.length).length ≤ 1001 := by have := insTo_len (p := p) (x := x0) (L := U.lea) (Nat.le_refl _); omega
                have z14 := FW.out.cell
                have l14 := FW.out.lt
                clear hltk
                by_cases hpl : p < U.lea.length
                · have d0 : decide (p < U.lea.length) = true := decide_eq_true hpl
                  have HOZ := Lib.hid (show wr.ownsRow wA.heap.size 49 4 ov (takeL U ses reel now).length ((takeL U ses reel now).flatMap lsV) by
                    have h1 : insTo p x0 U.lea U.lea.length = takeL U ses reel now := by
                      rw [HTK.out]
                      unfold insTo
                      rw [if_neg (by omega), List.take_length]
                    rw [← h1]
                    exact HO.out)
                  rw [d0]
                  clear hpl
                  have XZ := Lib.hid (XA.out.ext (G.out.mono (Nat.le_refl _)))
                  have NZ := Lib.hid (RefN.newL (T' := { U with lf := U.lf + 1, lea := takeL U ses reel now }) (NA.out.ext G.out) rfl HOZ.out HMA.out)
                  obtain ⟨KL, kd, rfl, _, _, _⟩ := leas_of_own HOZ.out
                  have q := XZ.out.box.cell
                  have y := XZ.out.box.free
                  have q1 := XZ.out.res.cell
                  have y1 := XZ.out.res.free
                  have hlt := XZ.out.lt
                  have hltd := XZ.out.box.lt
                  have HT := Lib.hid (show V = { U with lf := U.lf + 1, lea := takeL U ses reel now } from HT0.out)
                  clear z14 l14
                  go_wp2_with fail
                  go_region
                  go_wp2_with (with_reducible refine stop_at ?_)
                  unfold StopAt
                  clear q y q1 y1
                  generalize hw9 : World.drew _ = w9
                  have X9 := Lib.hid (show RBox D w _ [Value.int .i64 U.now, Value.int .i64 U.ls, Value.int .i64 (U.lf + 1), Value.slice SB U.ses.length sb, Value.slice KL (takeL U ses reel now).length kd] w9 by rw [← hw9]; exact ((((((XZ.out.setB 4 _).setR 0 _).setR 1 _).setR 2 _).setR 3 _).setR 4 _).ext (Below.refl _ _).drew)
                  have N9 := Lib.hid (show RefN (NX N D) { U with lf := U.lf + 1, lea := takeL U ses reel now } _ _ w9 by rw [← hw9]; exact ((((((NZ.out.putB 4 _).putR 0 _).putR 1 _).putR 2 _).putR 3 _).putR 4 _).ext (Below.refl _ _).drew)
                  have r0 : w9.cell? ⟨D + 1, 0, none⟩ = some (Value.int .i64 U.now) := X9.out.res.cell 0
                  have r1 : w9.cell? ⟨D + 1, 1, none⟩ = some (Value.int .i64 U.ls) := X9.out.res.cell 1
                  have r2 : w9.cell? ⟨D + 1, 2, none⟩ = some (Value.int .i64 (U.lf + 1)) := X9.out.res.cell 2
                  have r3 : w9.cell? ⟨D + 1, 3, none⟩ = some (Value.slice SB U.ses.length sb) := X9.out.res.cell 3
                  have r4 : w9.cell? ⟨D + 1, 4, none⟩ = some (Value.slice KL (takeL U ses reel now).length kd) := X9.out.res.cell 4
                  refine bodyPost_ret (by simp [results, Tryz.results39, r0, r1, r2, r3, r4, go_sem]; try rfl) rfl ?_
                  rw [HY1.out, HY2.out, HT.out]
                  exact ⟨⟨_, _, rfl, N9.out.unbox⟩, X9.out.bel⟩
                · have d0 : decide (p < U.lea.length) = false := decide_eq_false hpl
                  have h1 : insTo p x0 U.lea U.lea.length ++ [x0] = takeL U ses reel now := by
                    have h2 : p = U.lea.length := by have := HPL.out; omega
                    rw [HTK.out, h2]
                    unfold insTo
                    rw [if_pos (Nat.le_refl _), List.drop_length]
                  have HH1 := Lib.hid h1
                  rw [d0]
                  clear hpl h1
                  generalize insTo p x0 U.lea U.lea.length = M at *
                  go_wp2_with (at_builtin; go_loud (refine wpList_append_own _ rfl _ _ 28 rfl wA.heap.size 49 i0 (.agg #[.string ⟨#[]⟩, .int .i64 0, .int .i64 0, .int .i64 0]) 4 40 Tryz.underlying28 HI0.out.1 HI0.out.2.1 HI0.out.2.2.1 HI0.out.2.2.2 rfl (by decide) ov M.length (M.flatMap lsV) rfl (HO.out.alloc _) ⟨wr.heap.size, 0, none⟩ 1 1 (lsV x0) rfl rfl (by rw [HX0.out]; exact CellsAt.all (by simp [CellsAt, go_sem])) (by rw [HX0.out]; simp [Value.oneCell']) (by simp only [maxLen]; omega) (by omega) (by simp; omega) ?_))
                  intro o' w5 ho hgr _
                  have G6 := Lib.hid (show Below wA.heap.size wA w5 from ((G.out.alloc hDw _).grown hgr (by simp; omega) (own_base HO.out)))
                  have HOZ := Lib.hid (show w5.ownsRow wA.heap.size 49 4 o' (takeL U ses reel now).length ((takeL U ses reel now).flatMap lsV) by
                    rw [← HH1.out, List.flatMap_append, List.length_append]
                    simpa using ho)
                  clear ho hgr
                  have XZ := Lib.hid (XA.out.ext (G6.out.mono (Nat.le_refl _)))
                  have NZ := Lib.hid (RefN.newL (T' := { U with lf := U.lf + 1, lea := takeL U ses reel now }) (NA.out.ext G6.out) rfl HOZ.out HMA.out)
                  obtain ⟨KL, kd, rfl, _, _, _⟩ := leas_of_own HOZ.out
                  have q := XZ.out.box.cell
                  have y := XZ.out.box.free
                  have q1 := XZ.out.res.cell
                  have y1 := XZ.out.res.free
                  have hlt := XZ.out.lt
                  have hltd := XZ.out.box.lt
                  have HT := Lib.hid (show V = { U with lf := U.lf + 1, lea := takeL U ses reel now } from HT0.out)
                  clear z14 l14
                  go_wp2_with fail
                  go_region
                  go_wp2_with (with_reducible refine stop_at ?_)
                  unfold StopAt
                  clear q y q1 y1
                  generalize hw9 : World.drew _ = w9
                  have X9 := Lib.hid (show RBox D w _ [Value.int .i64 U.now, Value.int .i64 U.ls, Value.int .i64 (U.lf + 1), Value.slice SB U.ses.length sb, Value.slice KL (takeL U ses reel now).length kd] w9 by rw [← hw9]; exact ((((((XZ.out.setB 4 _).setR 0 _).setR 1 _).setR 2 _).setR 3 _).setR 4 _).ext (Below.refl _ _).drew)
                  have N9 := Lib.hid (show RefN (NX N D) { U with lf := U.lf + 1, lea := takeL U ses reel now } _ _ w9 by rw [← hw9]; exact ((((((NZ.out.putB 4 _).putR 0 _).putR 1 _).putR 2 _).putR 3 _).putR 4 _).ext (Below.refl _ _).drew)
                  have r0 : w9.cell? ⟨D + 1, 0, none⟩ = some (Value.int .i64 U.now) := X9.out.res.cell 0
                  have r1 : w9.cell? ⟨D + 1, 1, none⟩ = some (Value.int .i64 U.ls) := X9.out.res.cell 1
                  have r2 : w9.cell? ⟨D + 1, 2, none⟩ = some (Value.int .i64 (U.lf + 1)) := X9.out.res.cell 2
                  have r3 : w9.cell? ⟨D + 1, 3, none⟩ = some (Value.slice SB U.ses.length sb) := X9.out.res.cell 3
                  have r4 : w9.cell? ⟨D + 1, 4, none⟩ = some (Value.slice KL (takeL U ses reel now).length kd) := X9.out.res.cell 4
                  refine bodyPost_ret (by simp [results, Tryz.results39, r0, r1, r2, r3, r4, go_sem]; try rfl) rfl ?_
                  rw [HY1.out, HY2.out, HT.out]
                  exact ⟨⟨_, _, rfl, N9.out.unbox⟩, X9.out.bel⟩
    · rw [if_neg hin] at HR1 HR2 HV
      refine (HIS.out false (decide_eq_false hin).symm w6 N6.out.ref).mono ?_
      rintro e w7 ⟨rfl, hb7⟩
      have X7 := Lib.hid (X6.out.ext hb7)
      have N7 := Lib.hid (N6.out.ext hb7)
      clear hb7 HIS hin
      have q := X7.out.box.cell
      have y := X7.out.box.free
      have q1 := X7.out.res.cell
      have y1 := X7.out.res.free
      have hlt := X7.out.lt
      have hltd := X7.out.box.lt
      have HY1 := Lib.hid (show R1 = 0 from HR1.out)
      have HY2 := Lib.hid (show R2 = 6 from HR2.out)
      have HT := Lib.hid (show V = U from HV.out)
      go_wp2_with (with_reducible refine stop_at ?_)
      unfold StopAt
      clear q y q1 y1
      generalize hw9 : World.setCell _ _ _ = w9
      have X9 := Lib.hid (show RBox D w _ [Value.int .i64 U.now, Value.int .i64 U.ls, Value.int .i64 U.lf, Value.slice SB U.ses.length sb, Value.slice LB U.lea.length lb] w9 by rw [← hw9]; exact ((((X7.out.setR 0 _).setR 1 _).setR 2 _).setR 3 _).setR 4 _)
      have N9 := Lib.hid (show RefN (NX N D) _ _ _ w9 by rw [← hw9]; exact ((((N7.out.putR 0 _).putR 1 _).putR 2 _).putR 3 _).putR 4 _)
      have r0 : w9.cell? ⟨D + 1, 0, none⟩ = some (Value.int .i64 U.now) := X9.out.res.cell 0
      have r1 : w9.cell? ⟨D + 1, 1, none⟩ = some (Value.int .i64 U.ls) := X9.out.res.cell 1
      have r2 : w9.cell? ⟨D + 1, 2, none⟩ = some (Value.int .i64 U.lf) := X9.out.res.cell 2
      have r3 : w9.cell? ⟨D + 1, 3, none⟩ = some (Value.slice SB U.ses.length sb) := X9.out.res.cell 3
      have r4 : w9.cell? ⟨D + 1, 4, none⟩ = some (Value.slice LB U.lea.length lb) := X9.out.res.cell 4
      refine bodyPost_ret (by simp [results, Tryz.results39, r0, r1, r2, r3, r4, go_sem]; try rfl) rfl ?_
      rw [HY1.out, HY2.out, HT.out]
      exact ⟨⟨_, _, rfl, N9.out.unbox⟩, X9.out.bel⟩
  · rw [if_neg h0] at HR1 HR2 HV
    have t0 : (E0 != 0) = true := by simpa using h0
    clear h0
    have HY1 := Lib.hid (show R1 = 0 from HR1.out)
    have HY2 := Lib.hid (show R2 = E0 from HR2.out)
    have HT := Lib.hid (show V = U from HV.out)
    go_wp2_with (with_reducible refine stop_at ?_)
    unfold StopAt
    clear q y q1 y1
    generalize hw9 : World.setCell _ _ _ = w9
    have X9 := Lib.hid (show RBox D w _ [Value.int .i64 U.now, Value.int .i64 U.ls, Value.int .i64 U.lf, Value.slice SB U.ses.length sb, Value.slice LB U.lea.length lb] w9 by rw [← hw9]; exact (((((((((X3.out.setB 0 _).setB 1 _).setB 2 _).setB 3 _).setB 4 _).setR 0 _).setR 1 _).setR 2 _).setR 3 _).setR 4 _)
    have N9 := Lib.hid (show RefN (NX N D) _ _ _ w9 by rw [← hw9]; exact (((((((((N3.out.putB 0 _).putB 1 _).putB 2 _).putB 3 _).putB 4 _).putR 0 _).putR 1 _).putR 2 _).putR 3 _).putR 4 _)
    have r0 : w9.cell? ⟨D + 1, 0, none⟩ = some (Value.int .i64 U.now) := X9.out.res.cell 0
    have r1 : w9.cell? ⟨D + 1, 1, none⟩ = some (Value.int .i64 U.ls) := X9.out.res.cell 1
    have r2 : w9.cell? ⟨D + 1, 2, none⟩ = some (Value.int .i64 U.lf) := X9.out.res.cell 2
    have r3 : w9.cell? ⟨D + 1, 3, none⟩ = some (Value.slice SB U.ses.length sb) := X9.out.res.cell 3
    have r4 : w9.cell? ⟨D + 1, 4, none⟩ = some (Value.slice LB U.lea.length lb) := X9.out.res.cell 4
    refine bodyPost_ret (by simp [results, Tryz.results39, r0, r1, r2, r3, r4, go_sem]; try rfl) rfl ?_
    rw [HY1.out, HY2.out, HT.out]
    exact ⟨⟨_, _, rfl, N9.out.unbox⟩, X9.out.bel⟩
end Go.Proofs.YtneiljaknmeagaaGreatDoor
