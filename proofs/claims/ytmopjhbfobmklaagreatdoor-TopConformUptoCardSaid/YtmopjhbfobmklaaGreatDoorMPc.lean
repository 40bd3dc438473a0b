/-
  The contract of the law TopConform. Its conditions are its hypotheses.
-/
import Derived.Test.YtmopjhbfobmklaaGreatDoorMP6
import Derived.Test.YtmopjhbfobmklaaGreatDoorMHd
namespace Go.Proofs.YtmopjhbfobmklaaGreatDoor
open Go.RowKit Go.Joins
set_option linter.unusedVariables false
set_option linter.unusedSimpArgs false
def sevM : List Ct := [⟨0, [], 0, 0, 7, 0, 0⟩]
def sevE : Lst := ⟨[], 0, false, sevM⟩
theorem sev_lem : lenG sevM = 7 := by decide
theorem sevn_any (g : Nat) (w : World) (h : Held w g (⟨0, [], 0, 0, 7, 0, 0⟩ : Ct).cs) :
  Calls Tryz.prog 6 #[.agg #[.string ⟨#[]⟩, .int .u8 0, .bool false, .slice (some ⟨g, 0, none⟩) 1 1]] w fun e w' => e = .returned (.int .i64 7) ∧ Below w.heap.size w w' := by
 have hc : CutsAt w (.slice (some ⟨g, 0, none⟩) 1 1) sevM := by
  refine ⟨some ⟨g, 0, none⟩, 1, rfl, Nat.le_refl _, by decide, fun k x hx => ?_⟩
  cases k with
  | zero =>
   cases hx
   refine ⟨g, 0, _, rfl, rfl, fun j u hu => ?_, rfl⟩
   rw [Nat.zero_mul, Nat.add_zero, Nat.zero_add, h.cell]
   exact hu
  | succ k => cases hx
 have := length_any sevE _ w hc (by decide)
 rw [show lenG sevE.cuts = 7 from sev_lem] at this
 exact this
theorem scrV_len (regs : List Rg) (E : List Ev) (f : Int) : (scrV regs E f).length ≤ 1000000 := by
 unfold scrV scrL
 refine Nat.le_trans (List.length_filter_le _ _) ?_
 rw [gridL_len]
 decide
set_option maxRecDepth 100000 in
set_option maxHeartbeats 16000000 in
theorem conform_law (v : Value) (l : List Rd) (d : Lst) (c : Value) (rec : Int) (w : World) (h : RdsAt w v l) (hdo : RdsOk l) (hc : CutsAt w c d.cuts) (hlo : LsOk d) (hr0 : -9223372036854775808 ≤ rec) (hr1 : rec ≤ 9223372036854775807) (hw : Wt w) :
  Calls Tryz.prog 4 #[v, d.v c, .int .i64 rec] w fun e w' => e = .returned (.bool true) ∧ Below w.heap.size w w' := by
 have HW := Lib.hid hw
 have HC := Lib.hid hc
 have HO := Lib.hid hlo
 have HL := Lib.hid h
 have HDO := Lib.hid hdo
 obtain ⟨A, cp, rfl⟩ := hc.form
 obtain ⟨A1, cp1, rfl⟩ := h.form
 have HSM := Lib.hid (fun W (hb : Below w.heap.size w W) => small_any _ l d _ W (SeqAt.ext HL.out RdC.stays hb) HDO.out (SeqAt.ext HC.out (Flat.stays _) hb))
 have HCF := Lib.hid (fun W (hb : Below w.heap.size w W) => conform_any _ l d _ 0 W (SeqAt.ext HL.out RdC.stays hb) HDO.out (SeqAt.ext HC.out (Flat.stays _) hb) HO.out (HW.out.on hb) (by omega))
 have HAT := Lib.hid (fun W (hb : Below w.heap.size w W) => rat_any d _ rec W (SeqAt.ext HC.out (Flat.stays _) hb) HO.out (HW.out.on hb))
 have HDC := Lib.hid (fun W (hb : Below w.heap.size w W) nm => docof_any _ l nm W (SeqAt.ext HL.out RdC.stays hb) HDO.out.len)
 have HOF := Lib.hid (fun W => lof_any d A d.cuts.length cp W)
 have HCS := Lib.hid (fun (hk : ConfOk l d) (ys : List Rg) (hp : ys.Perm (regsL l)) => conf_scr hk hp rec)
 obtain ⟨S, hS⟩ : ∃ S, S = smallB l d.cuts := ⟨_, rfl⟩
 obtain ⟨nC, hnC⟩ : ∃ n, n = d.cuts.length := ⟨_, rfl⟩
 obtain ⟨nL, hnL⟩ : ∃ n, n = l.length := ⟨_, rfl⟩
 rw [← hS] at HSM
 rw [← hnC] at HSM HCF HAT HOF ⊢
 rw [← hnL] at HSM HCF HDC ⊢
 have hdv : d.v (.slice A nC cp) = .agg #[.string (sB d.title), .int .u8 d.rate, .bool d.drop, .slice A nC cp] := rfl
 rw [hdv] at HSM HCF HAT HOF ⊢
 obtain ⟨Q, hQ⟩ : ∃ Q, Q = atG d rec := ⟨_, rfl⟩
 rw [← hQ] at HAT HCS
 clear hw hc hlo h hdo hS hnC hnL hdv hQ
 obtain ⟨nm, fr, ok⟩ := Q
 dsimp only at HAT HCS
 obtain ⟨G, hG⟩ : ∃ G, G = w.heap.size := ⟨_, rfl⟩
 go_enter Tryz.func4, Tryz.ntmps4
 go_wp2_with fail
 rw [← hG]
 generalize hw1 : World.alloc (World.alloc w _) _ = w1
 have F1 := Lib.hid (show Held w1 G (d.cs (.slice A nC cp)) by subst hw1; exact (Held.new hG).alloc _)
 have S1 := Lib.hid (show Held w1 (G + 1) (⟨0, [], 0, 0, 7, 0, 0⟩ : Ct).cs by subst hw1; exact Held.new (by simp [hG]))
 have B1 := Lib.hid (show Below w.heap.size w w1 by subst hw1; exact (Below.more' _ _).alloc (by simp) _)
 have HGe := Lib.hid hG
 clear hw1 hG
 refine (sevn_any (G + 1) w1 S1.out).mono ?_
 rintro e w2 ⟨rfl, hb⟩
 have F2 := Lib.hid (F1.out.ext hb)
 have B2 := Lib.hid (B1.out.trans (hb.mono B1.out.size))
 have hG2 : G < w2.heap.size := F2.out.lt
 clear hb F1 S1 B1
 have q := F2.out.cell
 unfold Lst.cs at q
 go_wp2_with fail
 clear q
 refine (HSM.out w2 B2.out).mono ?_
 rintro e w3 ⟨rfl, hb⟩
 have F3 := Lib.hid (F2.out.ext hb)
 have B3 := Lib.hid (B2.out.trans (hb.mono B2.out.size))
 have hG3 : G < w3.heap.size := F3.out.lt
 clear hb F2 B2 HSM hG2
 cases S with
 | false =>
  go_wp2_with fail
  go_ret
  exact ⟨rfl, B3.out⟩
 | true =>
  by_cases h1 : rec < 0
  ·have t1 : decide (rec < 0) = true := by simpa using h1
   go_wp2_with fail
   go_ret
   exact ⟨rfl, B3.out⟩
  by_cases h2 : 5184000 < rec
  ·have t1 : decide (rec < 0) = false := by simpa using h1
   have t2 : decide (5184000 < rec) = true := by simpa using h2
   go_wp2_with fail
   go_ret
   exact ⟨rfl, B3.out⟩
  have t1 : decide (rec < 0) = false := by simpa using h1
  have t2 : decide (5184000 < rec) = false := by simpa using h2
  have q := F3.out.cell
  unfold Lst.cs at q
  go_wp2_with fail
  clear q
  refine (HOF.out w3).mono ?_
  rintro e w4 ⟨rfl, hb⟩
  have B4 := Lib.hid (B3.out.trans (hb.mono B3.out.size))
  clear hb F3 B3 HOF hG3
  go_wp2_with fail
  obtain ⟨X, hX⟩ : ∃ X, X = w4.heap.size := ⟨_, rfl⟩
  rw [← hX]
  generalize hw5 : World.alloc w4 _ = w5
  have X5 := Lib.hid (show Held w5 X (d.cs (.slice A nC cp)) by subst hw5; exact Held.new hX)
  have B5 := Lib.hid (show Below w.heap.size w w5 by subst hw5; exact B4.out.trans ((Below.more' _ _).mono B4.out.size))
  clear hw5 B4 hX
  refine (HCF.out w5 B5.out).mono ?_
  rintro e w6 ⟨⟨qe, dd, rr, ev, cm, fv, F, rfl, hda, hfa, hiff, hcp⟩, hb⟩
  have X6 := Lib.hid (X5.out.ext hb)
  have B6 := Lib.hid (B5.out.trans (hb.mono B5.out.size))
  have hX6 : X < w6.heap.size := X6.out.lt
  have HDA := Lib.hid hda
  clear hb X5 B5 hda HCF
  obtain ⟨fA, fc, rfl⟩ := hfa.form
  obtain ⟨eA, ec, rfl⟩ := HDA.out.evs.form
  obtain ⟨rA, rc, rfl⟩ := HDA.out.regs.form
  obtain ⟨cA, cc, rfl⟩ := HDA.out.cms.form
  generalize dd.regs.length = nR at *
  generalize dd.cms.length = nK at *
  generalize dd.evs.length = nE at *
  generalize F.length = nF at *
  have hddv : dd.v (.slice rA nR rc) (.slice eA nE ec) (.slice cA nK cc) = .agg #[.string (sB dd.title), .string (sB dd.lang), .int .u8 dd.rate, .bool dd.drop, .int .i64 dd.last, .slice rA nR rc, .slice eA nE ec, .slice cA nK cc] := rfl
  rw [hddv]
  by_cases h0 : qe = 0
  ·obtain ⟨hok, hn4⟩ := hiff.1 h0
   obtain ⟨hF, ys, hp, hs, hdd⟩ := hcp h0
   have HGD := Lib.hid (show dcE dd = 0 by rw [hdd]; exact conf_good hok hn4 hp hs)
   have HDK := Lib.hid (show DcOk dd by rw [hdd]; exact conf_dcok hok HDO.out HO.out hn4 hp)
   have HSY := Lib.hid (HCS.out hok ys hp)
   have hde : scrV ys (evsA (rawP l d)) rec = scrV dd.regs dd.evs rec := by rw [hdd]
   rw [hde] at HSY
   clear hiff hcp hok hF hp hs hdd hn4 hde HCS hfa
   subst h0
   go_wp2_with fail
   obtain ⟨Y, hY⟩ : ∃ Y, Y = w6.heap.size := ⟨_, rfl⟩
   rw [← hY]
   generalize hw7 : World.alloc w6 _ = w7
   have Y7 := Lib.hid (show Held w7 Y (dd.cs (.slice rA nR rc) (.slice eA nE ec) (.slice cA nK cc)) by subst hw7; exact Held.new hY)
   have X7 := Lib.hid (show Held w7 X (d.cs (.slice A nC cp)) by subst hw7; exact X6.out.alloc _)
   have B7 := Lib.hid (show Below w.heap.size w w7 by subst hw7; exact B6.out.trans ((Below.more' _ _).mono B6.out.size))
   have HDA7 := Lib.hid (show DocAt w7 dd (.slice rA nR rc) (.slice eA nE ec) (.slice cA nK cc) by subst hw7; exact HDA.out.ext (Below.more' _ _))
   clear hw7 X6 B6 HDA hY hX6
   refine (show Calls Tryz.prog 16 #[dd.v (.slice rA nR rc) (.slice eA nE ec) (.slice cA nK cc), .int .i64 rec] w7 _ from dscreen_any dd _ _ _ rec w7 HDA7.out HDK.out (HW.out.on B7.out)).mono ?_
   rintro e w8 ⟨⟨sA, sc, ns, q, rfl, hq⟩, hb⟩
   obtain ⟨rfl, hns, hos⟩ := hq ⟨HGD.out, by omega, by omega⟩
   have HOS := Lib.hid hos
   have HNS := Lib.hid hns
   have X8 := Lib.hid (X7.out.ext hb)
   have B8 := Lib.hid (B7.out.trans (hb.mono B7.out.size))
   have hX8 : X < w8.heap.size := X8.out.lt
   clear hb X7 B7 HDA7 Y7 hq hns hos
   generalize scrV dd.regs dd.evs rec = SA at *
   have q := X8.out.cell
   unfold Lst.cs at q
   go_wp2_with fail
   clear q
   refine (HAT.out w8 B8.out).mono ?_
   rintro e w9 ⟨rfl, hb⟩
   have B9 := Lib.hid (B8.out.trans (hb.mono B8.out.size))
   have HO9 := Lib.hid (own_ext HOS.out hb)
   clear hb X8 B8 HOS hX8
   go_wp2_with fail
   obtain ⟨U, hU⟩ : ∃ U, U = w9.heap.size := ⟨_, rfl⟩
   rw [← hU]
   generalize hw10 : World.alloc w9 _ = w10
   have U10 := Lib.hid (show Held w10 U [.string (sB nm), .int .i64 fr] by subst hw10; exact Held.new hU)
   have B10 := Lib.hid (show Below w.heap.size w w10 by subst hw10; exact B9.out.trans ((Below.more' _ _).mono B9.out.size))
   have HO10 := Lib.hid (show w10.ownsRow w7.heap.size 112 6 (.slice sA ns sc) SA.length (SA.flatMap Gl.cs) by subst hw10; exact own_ext HO9.out (Below.more' _ _))
   have hU10 : U < w10.heap.size := U10.out.lt
   clear hw10 B9 HO9 hU
   have u0 : w10.cell? ⟨U, 0, none⟩ = some (.string (sB nm)) := U10.out.cell 0
   go_wp2_with fail
   clear u0
   refine (HDC.out w10 B10.out nm).mono ?_
   rintro e w11 ⟨⟨xr, xe, xc, rfl, hxd⟩, hb⟩
   have U11 := Lib.hid (U10.out.ext hb)
   have B11 := Lib.hid (B10.out.trans (hb.mono B10.out.size))
   have HO11 := Lib.hid (own_ext HO10.out hb)
   clear hb U10 B10 HO10 hU10
   obtain ⟨xeA, xec, rfl⟩ := hxd.evs.form
   obtain ⟨xrA, xrc, rfl⟩ := hxd.regs.form
   obtain ⟨xcA, xcc, rfl⟩ := hxd.cms.form
   have HXD := Lib.hid hxd
   have HYK := Lib.hid (show (docL nm l).2 = true → DcOk (docL nm l).1 from fun h => by
    obtain ⟨x, hx, _, hd⟩ := docL_in h
    rw [hd]
    exact HDO.out.docs x hx)
   obtain ⟨yd, hyd⟩ : ∃ y, y = (docL nm l).1 := ⟨_, rfl⟩
   obtain ⟨yb, hyb⟩ : ∃ b, b = (docL nm l).2 := ⟨_, rfl⟩
   rw [← hyd] at HXD HSY HYK ⊢
   rw [← hyb] at HSY HYK ⊢
   generalize yd.evs.length = nX at *
   generalize yd.regs.length = nXr at *
   generalize yd.cms.length = nXc at *
   rw [show yd.v (.slice xrA nXr xrc) (.slice xeA nX xec) (.slice xcA nXc xcc) = .agg #[.string (sB yd.title), .string (sB yd.lang), .int .u8 yd.rate, .bool yd.drop, .int .i64 yd.last, .slice xrA nXr xrc, .slice xeA nX xec, .slice xcA nXc xcc] from rfl]
   clear hxd hyd hyb
   have u1 : w11.cell? ⟨U, 1, none⟩ = some (.int .i64 fr) := U11.out.cell 1
   have hU11 : U < w11.heap.size := U11.out.lt
   cases ok with
   | false =>
    have HE := Lib.hid (HSY.out.2 (.inl rfl))
    have hns : ns = 0 := by rw [HNS.out, HE.out]; rfl
    subst hns
    clear HSY
    go_wp2_with fail
    go_ret
    exact ⟨rfl, B11.out.trans ((Below.more' _ _).mono B11.out.size)⟩
   | true =>
    cases yb with
    | false =>
     have HE := Lib.hid (HSY.out.2 (.inr rfl))
     have hns : ns = 0 := by rw [HNS.out, HE.out]; rfl
     subst hns
     clear HSY
     go_wp2_with fail
     go_ret
     exact ⟨rfl, B11.out.trans ((Below.more' _ _).mono B11.out.size)⟩
    | true =>
     obtain ⟨hs1, hs2, hs3, hs4⟩ := HSY.out.1 rfl rfl
     have HS1 := Lib.hid hs1
     have HS2 := Lib.hid hs2
     have HYK2 := Lib.hid (HYK.out rfl)
     clear hs1 hs2 HSY HYK
     go_wp2_with fail
     clear u1
     generalize hw12 : World.alloc w11 _ = w12
     have B12 := Lib.hid (show Below w.heap.size w w12 by subst hw12; exact B11.out.trans ((Below.more' _ _).mono B11.out.size))
     have HO12 := Lib.hid (show w12.ownsRow w7.heap.size 112 6 (.slice sA ns sc) SA.length (SA.flatMap Gl.cs) by subst hw12; exact own_ext HO11.out (Below.more' _ _))
     have HXD12 := Lib.hid (show DocAt w12 yd (.slice xrA nXr xrc) (.slice xeA nX xec) (.slice xcA nXc xcc) by subst hw12; exact HXD.out.ext (Below.more' _ _))
     clear hw12 U11 B11 HO11 HXD
     refine (show Calls Tryz.prog 16 #[yd.v (.slice xrA nXr xrc) (.slice xeA nX xec) (.slice xcA nXc xcc), .int .i64 fr] w12 _ from dscreen_any yd _ _ _ fr w12 HXD12.out HYK2.out (HW.out.on B12.out)).mono ?_
     rintro e w13 ⟨⟨tA, tc, nt, q, rfl, hq⟩, hb⟩
     obtain ⟨rfl, hnt, hot⟩ := hq ⟨HS2.out, hs3, hs4⟩
     have B13 := Lib.hid (B12.out.trans (hb.mono B12.out.size))
     have HO13 := Lib.hid (own_ext HO12.out hb)
     have HT13 := Lib.hid hot
     have HNT := Lib.hid hnt
     clear hb HO12 hq hnt hot HXD12
     rw [← HS1.out] at HT13 HNT
     go_wp2_with fail
     have HSA := Lib.hid (show Calls Tryz.prog 17 #[.slice sA ns sc, .slice tA nt tc] w13 fun e w' => e = .returned (.bool true) ∧ Below w13.heap.size w13 w' from by
      have hle : SA.length ≤ 1000000 := by rw [HS1.out]; exact scrV_len _ _ _
      have k := same_any _ _ SA SA w13 (gls_of HO13.out) (gls_of HT13.out) hle
      rw [decide_eq_true (rfl : SA = SA)] at k
      exact k)
     refine HSA.out.mono ?_
     rintro e w14 ⟨rfl, hb⟩
     have B14 := Lib.hid (B13.out.trans (hb.mono B13.out.size))
     clear hb
     go_wp2_with fail
     go_ret
     exact ⟨rfl, B14.out⟩
  ·have t0 : (qe != 0) = true := by simpa using h0
   go_wp2_with fail
   go_ret
   exact ⟨rfl, B6.out.trans ((Below.more' _ _).mono B6.out.size)⟩
end Go.Proofs.YtmopjhbfobmklaaGreatDoor
