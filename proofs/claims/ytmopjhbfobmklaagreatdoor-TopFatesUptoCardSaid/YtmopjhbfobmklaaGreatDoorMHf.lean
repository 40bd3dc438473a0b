/-
  The contract of the law TopFates. Its conditions are its hypotheses.
-/
import Derived.Test.YtmopjhbfobmklaaGreatDoorMHe
import Derived.Test.YtmopjhbfobmklaaGreatDoorMHd
namespace Go.Proofs.YtmopjhbfobmklaaGreatDoor
open Go.RowKit Go.Joins
set_option linter.unusedVariables false
set_option linter.unusedSimpArgs false
def sevL : List Ct := [⟨0, [], 0, 0, 7, 0, 0⟩]
def sevD : Lst := ⟨[], 0, false, sevL⟩
theorem sev_len : lenG sevL = 7 := by decide
theorem sev_any (g : Nat) (w : World) (h : Held w g (⟨0, [], 0, 0, 7, 0, 0⟩ : Ct).cs) :
  Calls Tryz.prog 6 #[.agg #[.string ⟨#[]⟩, .int .u8 0, .bool false, .slice (some ⟨g, 0, none⟩) 1 1]] w fun e w' => e = .returned (.int .i64 7) ∧ Below w.heap.size w w' := by
 have hc : CutsAt w (.slice (some ⟨g, 0, none⟩) 1 1) sevL := by
  refine ⟨some ⟨g, 0, none⟩, 1, rfl, Nat.le_refl _, by decide, fun k x hx => ?_⟩
  cases k with
  | zero =>
   cases hx
   refine ⟨g, 0, _, rfl, rfl, fun j u hu => ?_, rfl⟩
   rw [Nat.zero_mul, Nat.add_zero, Nat.zero_add, h.cell]
   exact hu
  | succ k => cases hx
 have := length_any sevD _ w hc (by decide)
 rw [show lenG sevD.cuts = 7 from sev_len] at this
 exact this
theorem FatesAt.get {w : World} {A : Option Addr} {n c : Nat} {xs : List Ft} (h : FatesAt w (.slice A n c) xs) {k : Nat} {x : Ft} (hx : xs[k]? = some x) :
  ∃ b o p q, A = some ⟨b, o, none⟩ ∧ w.cell? ⟨b, o + k * 5, none⟩ = some (.string (sB x.reel)) ∧ w.cell? ⟨b, o + k * 5 + 1, none⟩ = some (.int .i64 x.id) ∧ w.cell? ⟨b, o + k * 5 + 2, none⟩ = some (.slice p x.parts.length q) ∧ w.cell? ⟨b, o + k * 5 + 3, none⟩ = some (.int .i64 x.lost) ∧ w.cell? ⟨b, o + k * 5 + 4, none⟩ = some (.slice none 0 0) ∧ IntsAt w p x.parts := by
 obtain ⟨b, o, cs, e1, e2, e3, p, q, e4, e5⟩ := SeqAt.get h hx
 subst e4
 exact ⟨b, o, p, q, e1, e3 0 _ rfl, e3 1 _ rfl, e3 2 _ rfl, e3 3 _ rfl, e3 4 _ rfl, e5⟩
theorem seenV_bd (d : Lst) (nm : List UInt8) (s : Spn) : ∀ n, 0 ≤ seenV d nm s n ∧ seenV d nm s n ≤ n
 | 0 => ⟨Int.le_refl _, Int.le_refl _⟩
 | n + 1 => by
  have := seenV_bd d nm s n
  unfold seenV
  split <;> omega
set_option maxRecDepth 100000 in
set_option maxHeartbeats 16000000 in
theorem fates_law (v : Value) (l : List Rd) (d : Lst) (c : Value) (w : World) (h : RdsAt w v l) (hdo : RdsOk l) (hc : CutsAt w c d.cuts) (hlo : LsOk d) (hw : Wt w) :
  Calls Tryz.prog 3 #[v, d.v c] w fun e w' => e = .returned (.bool true) ∧ Below w.heap.size w w' := by
 have HW := Lib.hid hw
 have HC := Lib.hid hc
 have HO := Lib.hid hlo
 have HL := Lib.hid h
 have HDO := Lib.hid hdo
 obtain ⟨A, cp, rfl⟩ := hc.form
 obtain ⟨A1, cp1, rfl⟩ := h.form
 have HLN := Lib.hid (fun W (hb : Below w.heap.size w W) => length_any d _ W (SeqAt.ext HC.out (Flat.stays _) hb) HO.out.cutl)
 have HSM := Lib.hid (fun W (hb : Below w.heap.size w W) => small_any _ l d _ W (SeqAt.ext HL.out RdC.stays hb) HDO.out (SeqAt.ext HC.out (Flat.stays _) hb))
 have HCF := Lib.hid (fun W (hb : Below w.heap.size w W) => conform_any _ l d _ 1 W (SeqAt.ext HL.out RdC.stays hb) HDO.out (SeqAt.ext HC.out (Flat.stays _) hb) HO.out (HW.out.on hb) (by omega))
 have HAT := Lib.hid (fun W (hb : Below w.heap.size w W) rec => rat_any d _ rec W (SeqAt.ext HC.out (Flat.stays _) hb) HO.out (HW.out.on hb))
 have HDC := Lib.hid (fun W (hb : Below w.heap.size w W) nm => docof_any _ l nm W (SeqAt.ext HL.out RdC.stays hb) HDO.out.len)
 have HPL := Lib.hid (fun W (hb : Below w.heap.size w W) nm => played_any d _ nm W (SeqAt.ext HC.out (Flat.stays _) hb) HO.out (HW.out.on hb))
 have HOF := Lib.hid (fun W => lof_any d A d.cuts.length cp W)
 obtain ⟨R, hR⟩ : ∃ R, R = lenG d.cuts := ⟨_, rfl⟩
 obtain ⟨S, hS⟩ : ∃ S, S = smallB l d.cuts := ⟨_, rfl⟩
 obtain ⟨nC, hnC⟩ : ∃ n, n = d.cuts.length := ⟨_, rfl⟩
 obtain ⟨nL, hnL⟩ : ∃ n, n = l.length := ⟨_, rfl⟩
 rw [← hR] at HLN
 rw [← hS] at HSM
 rw [← hnC] at HLN HSM HCF HAT HPL HOF ⊢
 rw [← hnL] at HSM HCF HDC ⊢
 have HRE := Lib.hid hR
 have hdv : d.v (.slice A nC cp) = .agg #[.string (sB d.title), .int .u8 d.rate, .bool d.drop, .slice A nC cp] := rfl
 rw [hdv] at HLN HSM HCF HAT HPL HOF ⊢
 clear hw hc hlo h hdo hR hS hnC hnL hdv
 obtain ⟨G, hG⟩ : ∃ G, G = w.heap.size := ⟨_, rfl⟩
 go_enter Tryz.func3, Tryz.ntmps3
 go_wp2_with fail
 rw [← hG]
 generalize hw1 : World.alloc (World.alloc w _) _ = w1
 have F1 := Lib.hid (show Held w1 G (d.cs (.slice A nC cp)) by subst hw1; exact (Held.new hG).alloc _)
 have S1 := Lib.hid (show Held w1 (G + 1) (⟨0, [], 0, 0, 7, 0, 0⟩ : Ct).cs by subst hw1; exact Held.new (by simp [hG]))
 have B1 := Lib.hid (show Below w.heap.size w w1 by subst hw1; exact (Below.more' _ _).alloc (by simp) _)
 have HGe := Lib.hid hG
 clear hw1 hG
 refine (sev_any (G + 1) w1 S1.out).mono ?_
 rintro e w2 ⟨rfl, hb⟩
 have F2 := Lib.hid (F1.out.ext hb)
 have B2 := Lib.hid (B1.out.trans (hb.mono B1.out.size))
 have hG2 : G < w2.heap.size := F2.out.lt
 clear hb F1 S1 B1
 have q := F2.out.cell
 unfold Lst.cs at q
 go_wp2_with fail
 clear q
 refine (HOF.out w2).mono ?_
 rintro e w3 ⟨rfl, hb⟩
 have F3 := Lib.hid (F2.out.ext hb)
 have B3 := Lib.hid (B2.out.trans (hb.mono B2.out.size))
 have hG3 : G < w3.heap.size := F3.out.lt
 clear hb F2 B2 HOF hG2
 have q := F3.out.cell
 unfold Lst.cs at q
 go_wp2_with fail
 clear q
 obtain ⟨X, hX⟩ : ∃ X, X = w3.heap.size := ⟨_, rfl⟩
 rw [← hX]
 generalize hw4 : World.alloc w3 _ = w4
 have F4 := Lib.hid (show Held w4 G (d.cs (.slice A nC cp)) by subst hw4; exact F3.out.alloc _)
 have X4 := Lib.hid (show Held w4 X (d.cs (.slice A nC cp)) by subst hw4; exact Held.new hX)
 have B4 := Lib.hid (show Below w.heap.size w w4 by subst hw4; exact B3.out.trans ((Below.more' _ _).mono B3.out.size))
 clear hw4 F3 B3 hX hG3
 refine (HSM.out w4 B4.out).mono ?_
 rintro e w5 ⟨rfl, hb⟩
 have X5 := Lib.hid (X4.out.ext hb)
 have B5 := Lib.hid (B4.out.trans (hb.mono B4.out.size))
 have hX5 : X < w5.heap.size := X5.out.lt
 clear hb F4 X4 B4 HSM
 have q := X5.out.cell
 unfold Lst.cs at q
 cases S with
 | false =>
  go_wp2_with fail
  go_ret
  exact ⟨rfl, B5.out⟩
 | true =>
  go_wp2_with fail
  clear q
  refine (HLN.out w5 B5.out).mono ?_
  rintro e w6 ⟨rfl, hb⟩
  have X6 := Lib.hid (X5.out.ext hb)
  have B6 := Lib.hid (B5.out.trans (hb.mono B5.out.size))
  have hX6 : X < w6.heap.size := X6.out.lt
  clear hb X5 B5 hX5
  by_cases hr : 1500 < R
  ·have t1 : decide (1500 < R) = true := by simpa using hr
   go_wp2_with fail
   go_ret
   exact ⟨rfl, B6.out⟩
  ·have t1 : decide (1500 < R) = false := by simpa using hr
   have q := X6.out.cell
   unfold Lst.cs at q
   go_wp2_with fail
   clear q
   refine (HCF.out w6 B6.out).mono ?_
   rintro e w7 ⟨⟨qe, dd, rr, ev, cm, fv, F, rfl, hda, hfa, hiff, hcp⟩, hb⟩
   have X7 := Lib.hid (X6.out.ext hb)
   have B7 := Lib.hid (B6.out.trans (hb.mono B6.out.size))
   have hX7 : X < w7.heap.size := X7.out.lt
   have HDA := Lib.hid hda
   have HFA := Lib.hid hfa
   clear hb X6 B6 hX6 hda hfa HCF
   obtain ⟨fA, fc, rfl⟩ := HFA.out.form
   obtain ⟨nF, hnF⟩ : ∃ n, n = F.length := ⟨_, rfl⟩
   rw [← hnF] at HFA ⊢
   have HNF := Lib.hid hnF
   clear hnF
   have hnFm : nF ≤ 9223372036854775807 := by
    have h1 := SeqAt.len HFA.out
    have h2 : maxLen = 9223372036854775807 := rfl
    omega
   obtain ⟨eA, ec, rfl⟩ := HDA.out.evs.form
   obtain ⟨rA, rc, rfl⟩ := HDA.out.regs.form
   obtain ⟨cA, cc, rfl⟩ := HDA.out.cms.form
   generalize dd.regs.length = nR at *
   generalize dd.cms.length = nK at *
   obtain ⟨nE, hnE⟩ : ∃ n, n = dd.evs.length := ⟨_, rfl⟩
   rw [← hnE] at HDA ⊢
   have HNE := Lib.hid hnE
   clear hnE
   rw [show dd.v (.slice rA nR rc) (.slice eA nE ec) (.slice cA nK cc) = .agg #[.string (sB dd.title), .string (sB dd.lang), .int .u8 dd.rate, .bool dd.drop, .int .i64 dd.last, .slice rA nR rc, .slice eA nE ec, .slice cA nK cc] from rfl]
   by_cases h0 : qe = 0
   ·obtain ⟨hok, hn4⟩ := hiff.1 h0
    obtain ⟨hF, ys, hp, hs, hdd⟩ := hcp h0
    have HFT := Lib.hid (fun (k : Nat) (f : Ft) (hf : F[k]? = some f) => fates_ok hok (hF ▸ hf))
    have hE : dd.evs = evsA (rawP l d) := by rw [hdd]
    rw [← hE] at HFT
    have hne4 : nE ≤ 400 := by rw [HNE.out, hE, evsA_len]; exact hn4
    clear hiff hcp hok hF hp hs hdd hE hn4 ys
    subst h0
    go_wp2_with fail
    obtain ⟨Y, hY⟩ : ∃ Y, Y = w7.heap.size := ⟨_, rfl⟩
    rw [← hY]
    generalize hw8 : World.alloc w7 _ = w8
    have Y8 := Lib.hid (show Held w8 Y (dd.cs (.slice rA nR rc) (.slice eA nE ec) (.slice cA nK cc)) by subst hw8; exact Held.new hY)
    have X8 := Lib.hid (show Held w8 X (d.cs (.slice A nC cp)) by subst hw8; exact X7.out.alloc _)
    have B8 := Lib.hid (show Below w.heap.size w w8 by subst hw8; exact B7.out.trans ((Below.more' _ _).mono B7.out.size))
    have HDA8 := Lib.hid (show DocAt w8 dd (.slice rA nR rc) (.slice eA nE ec) (.slice cA nK cc) by subst hw8; exact HDA.out.ext (Below.more' _ _))
    have HFA8 := Lib.hid (show FatesAt w8 (.slice fA nF fc) F by subst hw8; exact SeqAt.ext HFA.out FtR.stays (Below.more' _ _))
    have hXY : X < Y := by omega
    have hrR : R ≤ 1500 := by omega
    have hYlt : Y < w8.heap.size := Y8.out.lt
    clear hw8 X7 B7 HDA HFA hY hr t1
    obtain ⟨N, hN⟩ : ∃ N : Nat, R = (N : Int) := ⟨R.toNat, by
     have := lenG_in (l := d.cuts) (n := 0)
     have h2 : R = lenGL 0 d.cuts := HRE.out
     omega⟩
    have HRN := Lib.hid (show (lenG d.cuts).toNat = N by rw [← HRE.out, hN, Int.toNat_natCast])
    subst hN
    have hN15 : N ≤ 1500 := by omega
    clear hrR
    go_loopw [57] (fun kv wr => ∃ k : Nat, kv = .int .i64 k ∧ k ≤ nF ∧ Hid (Below w8.heap.size w8 wr)) (fun kv _ => nF - (intOf kv).toNat)
    case atStart => exact ⟨0, rfl, Nat.zero_le _, Lib.hid (Below.refl _ _)⟩
    case round =>
     obtain ⟨k, rfl, hk, BR⟩ := hrel
     have BW := Lib.hid (show Below w.heap.size w wr from B8.out.trans (BR.out.mono B8.out.size))
     by_cases hlt : k < nF
     ·have hlt2 : (k : Int) < (nF : Int) := by omega
      obtain ⟨f, hf⟩ : ∃ f, F[k]? = some f := ⟨_, List.getElem?_eq_getElem (by have := HNF.out; omega)⟩
      obtain ⟨x, e, j, hxl, hfo⟩ := HFT.out k f hf
      have HFO := Lib.hid hfo
      have HXL := Lib.hid hxl
      obtain ⟨fb, fo, p, pq, rfl, q0, q1, q2, q3, q4, hpi⟩ := FatesAt.get (SeqAt.ext HFA8.out FtR.stays BR.out) hf
      have hbr : fb < wr.heap.size := World.block_lt_of_cell? wr _ q0
      have hj : j < x.doc.evs.length := (List.getElem?_eq_some_iff.1 hfo.ev).1
      have HEL := Lib.hid (HDO.out.docs x hxl).evl
      obtain ⟨nm, fid, parts, lost⟩ := f
      dsimp only at q0 q1 q2 q3 q4 hpi
      have hpl : parts.length ≤ 400 := by have := hfo.plen; rw [← HNE.out] at this; exact Nat.le_trans this hne4
      obtain ⟨nP, hnP⟩ : ∃ n, n = parts.length := ⟨_, rfl⟩
      rw [← hnP] at q2 hpl
      have HNP := Lib.hid hnP
      have HPI := Lib.hid hpi
      obtain ⟨hs1, hs2, hs3⟩ := hfo.span
      clear hf hxl hfo hnP hpi
      go_wp2_with fail
      obtain ⟨Z, hZ⟩ : ∃ Z, Z = wr.heap.size := ⟨_, rfl⟩
      rw [← hZ]
      generalize hw9 : World.alloc wr _ = w9
      have Z9 := Lib.hid (show Held w9 Z [.string (sB nm), .int .i64 fid, .slice p nP pq, .int .i64 lost, .slice none 0 0] by subst hw9; exact Held.new hZ)
      have BR9 := Lib.hid (show Below w8.heap.size w8 w9 by subst hw9; exact BR.out.alloc BR.out.size _)
      have HPI9 := Lib.hid (show IntsAt w9 p parts by subst hw9; exact HPI.out.ext (Below.more' _ _))
      have hYZ : Y < Z := by have := BR.out.size; omega
      clear hw9 q0 q1 q2 q3 q4 BR BW hbr HPI hZ
      refine (HDC.out w9 (B8.out.trans (BR9.out.mono B8.out.size)) nm).mono ?_
      rintro e1 w10 ⟨⟨xr, xe, xc, rfl, hxd⟩, hb⟩
      have Z10 := Lib.hid (Z9.out.ext hb)
      have BR10 := Lib.hid (show Below w8.heap.size w8 w10 from BR9.out.trans (hb.mono BR9.out.size))
      have HPI10 := Lib.hid (HPI9.out.ext hb)
      rw [show docL nm l = (x.doc, true) from HFO.out.doc] at hxd ⊢
      dsimp only at hxd ⊢
      obtain ⟨xeA, xec, rfl⟩ := hxd.evs.form
      obtain ⟨xrA, xrc, rfl⟩ := hxd.regs.form
      obtain ⟨xcA, xcc, rfl⟩ := hxd.cms.form
      obtain ⟨nX, hnX⟩ : ∃ n, n = x.doc.evs.length := ⟨_, rfl⟩
      rw [← hnX] at hxd hj HEL ⊢
      generalize x.doc.regs.length = nXr at *
      generalize x.doc.cms.length = nXc at *
      have HXD := Lib.hid hxd
      have HNX := Lib.hid hnX
      clear hb Z9 BR9 HPI9 hxd hnX
      rw [show x.doc.v (.slice xrA nXr xrc) (.slice xeA nX xec) (.slice xcA nXc xcc) = .agg #[.string (sB x.doc.title), .string (sB x.doc.lang), .int .u8 x.doc.rate, .bool x.doc.drop, .int .i64 x.doc.last, .slice xrA nXr xrc, .slice xeA nX xec, .slice xcA nXc xcc] from rfl]
      have z1 : w10.cell? ⟨Z, 1, none⟩ = some (.int .i64 fid) := Z10.out.cell 1
      have hZ10 : Z < w10.heap.size := Z10.out.lt
      go_wp2_with fail
      clear z1
      obtain ⟨V, hV⟩ : ∃ V, V = w10.heap.size := ⟨_, rfl⟩
      rw [← hV]
      generalize hw11 : World.alloc w10 _ = w11
      have V11 := Lib.hid (show Held w11 V (x.doc.cs (.slice xrA nXr xrc) (.slice xeA nX xec) (.slice xcA nXc xcc)) by subst hw11; exact Held.new hV)
      have Z11 := Lib.hid (show Held w11 Z [.string (sB nm), .int .i64 fid, .slice p nP pq, .int .i64 lost, .slice none 0 0] by subst hw11; exact Z10.out.alloc _)
      have BR11 := Lib.hid (show Below w8.heap.size w8 w11 by subst hw11; exact BR10.out.alloc BR10.out.size _)
      have HPI11 := Lib.hid (show IntsAt w11 p parts by subst hw11; exact HPI10.out.ext (Below.more' _ _))
      have HXD11 := Lib.hid (show EvsAt w11 (.slice xeA nX xec) x.doc.evs by subst hw11; exact SeqAt.ext HXD.out.evs EvC.stays (Below.more' _ _))
      have hZV : Z < V := by omega
      clear hw11 Z10 BR10 HPI10 HXD hV hZ10
      refine (show Calls Tryz.prog 11 #[x.doc.v (.slice xrA nXr xrc) (.slice xeA nX xec) (.slice xcA nXc xcc), .int .i64 fid] w11 _ from dfind_any x.doc _ _ _ fid w11 HXD11.out (by rw [← HNX.out]; exact HEL.out)).mono ?_
      rintro e1 w12 ⟨rfl, hb⟩
      rw [show fndI fid 0 x.doc.evs = (j : Int) from HFO.out.find]
      have V12 := Lib.hid (V11.out.ext hb)
      have Z12 := Lib.hid (Z11.out.ext hb)
      have BR12 := Lib.hid (show Below w8.heap.size w8 w12 from BR11.out.trans (hb.mono BR11.out.size))
      have HPI12 := Lib.hid (HPI11.out.ext hb)
      have HXD12 := Lib.hid (SeqAt.ext HXD11.out EvC.stays hb)
      clear hb V11 Z11 BR11 HPI11 HXD11
      obtain ⟨eb, eo, er, rfl, ⟨p0, p1, p2, p3, p4, p5, p6⟩, her⟩ := EvsAt.get HXD12.out HFO.out.ev
      have hj1 : ¬ (j : Int) < 0 := by omega
      have hj2 : (j : Int) < (nX : Int) := by omega
      have tj1 : decide ((j : Int) < 0) = false := by simp
      have tj2 : decide ((nX : Int) ≤ (j : Int)) = false := by simp; omega
      have tj3 : decide (nX ≤ j) = false := by simp; omega
      have v6 : w12.cell? ⟨V, 6, none⟩ = some (.slice (some ⟨eb, eo, none⟩) nX xec) := V12.out.cell 6
      have hV12 : V < w12.heap.size := V12.out.lt
      have heb : eb < w12.heap.size := World.block_lt_of_cell? w12 _ p0
      clear her hj1
      go_wp2_with fail
      clear v6 p0 p1 p2 p3 p4 p5 p6
      obtain ⟨U, hU⟩ : ∃ U, U = w12.heap.size := ⟨_, rfl⟩
      rw [← hU]
      generalize hw13 : World.alloc w12 _ = w13
      have U13 := Lib.hid (show Held w13 U [.int .i64 e.i, .int .i64 e.o] by subst hw13; exact Held.new hU)
      have Z13 := Lib.hid (show Held w13 Z [.string (sB nm), .int .i64 fid, .slice p nP pq, .int .i64 lost, .slice none 0 0] by subst hw13; exact Z12.out.alloc _)
      have BR13 := Lib.hid (show Below w8.heap.size w8 w13 by subst hw13; exact BR12.out.alloc BR12.out.size _)
      have HPI13 := Lib.hid (show IntsAt w13 p parts by subst hw13; exact HPI12.out.ext (Below.more' _ _))
      have hVU : V < U := by omega
      clear hw13 V12 Z12 BR12 HPI12 HXD12 hU hV12 heb
      go_loopw [15, 17] (fun sv kv wr => ∃ m : Nat, sv = .int .i64 (seenV d nm (evS e) m) ∧ kv = .int .i64 m ∧ m ≤ N ∧ Hid (Below w13.heap.size w13 wr)) (fun _ kv _ => N - (intOf kv).toNat)
      case atStart => exact ⟨0, rfl, rfl, Nat.zero_le _, Lib.hid (Below.refl _ _)⟩
      case round =>
       obtain ⟨m, rfl, rfl, hm, BQ⟩ := hrel
       have BR := Lib.hid (show Below w8.heap.size w8 wr from BR13.out.trans (BQ.out.mono BR13.out.size))
       have BW := Lib.hid (show Below w.heap.size w wr from B8.out.trans (BR.out.mono B8.out.size))
       have XR := Lib.hid (X8.out.ext BR.out)
       have ZR := Lib.hid (Z13.out.ext BQ.out)
       have UR := Lib.hid (U13.out.ext BQ.out)
       have hXr : X < wr.heap.size := XR.out.lt
       have q := XR.out.cell
       unfold Lst.cs at q
       go_wp2_with fail
       clear q
       refine (HLN.out wr BW.out).mono ?_
       rintro e1 w14 ⟨rfl, hb⟩
       have X14 := Lib.hid (XR.out.ext hb)
       have Z14 := Lib.hid (ZR.out.ext hb)
       have U14 := Lib.hid (UR.out.ext hb)
       have B14 := Lib.hid (show Below w.heap.size w w14 from BW.out.trans (hb.mono BW.out.size))
       have BQ14 := Lib.hid (show Below w13.heap.size w13 w14 from BQ.out.trans (hb.mono BQ.out.size))
       have hX14 : X < w14.heap.size := X14.out.lt
       clear hb XR ZR UR BW BR BQ hXr
       by_cases hmn : m < N
       ·have hmn2 : (m : Int) < (N : Int) := by omega
        have tm : decide ((m : Int) < (N : Int)) = true := by simpa using hmn2
        have HSV := Lib.hid (show seenV d nm (evS e) (m + 1) = seenV d nm (evS e) m + (if (atG d m).2.2 = true ∧ (atG d m).1 = nm ∧ e.i ≤ (atG d m).2.1 ∧ (atG d m).2.1 < e.o then 1 else 0) from rfl)
        have hsb := seenV_bd d nm (evS e) m
        have q := X14.out.cell
        unfold Lst.cs at q
        generalize seenV d nm (evS e) m = T at *
        go_wp2_with fail
        clear q
        refine (HAT.out w14 B14.out m).mono ?_
        rintro e1 w15 ⟨rfl, hb⟩
        have Z15 := Lib.hid (Z14.out.ext hb)
        have U15 := Lib.hid (U14.out.ext hb)
        have BQ15 := Lib.hid (show Below w13.heap.size w13 w15 from BQ14.out.trans (hb.mono BQ14.out.size))
        clear hb X14 Z14 U14 B14 BQ14 hX14
        obtain ⟨Q, hQ⟩ : ∃ Q, Q = atG d m := ⟨_, rfl⟩
        rw [← hQ] at HSV ⊢
        clear hQ
        obtain ⟨an, af, ao⟩ := Q
        dsimp only at HSV ⊢
        have z0 : w15.cell? ⟨Z, 0, none⟩ = some (.string (sB nm)) := Z15.out.cell 0
        have u0 : w15.cell? ⟨U, 0, none⟩ = some (.int .i64 e.i) := U15.out.cell 0
        have u1 : w15.cell? ⟨U, 1, none⟩ = some (.int .i64 e.o) := U15.out.cell 1
        have hZ15 : Z < w15.heap.size := Z15.out.lt
        have hU15 : U < w15.heap.size := U15.out.lt
        have HBN := Lib.hid (show Below w13.heap.size w13 (w15.alloc (.cells #[.string (sB an), .int .i64 af] 57 (0, 0))) from BQ15.out.alloc BQ15.out.size _)
        cases ao with
        | false =>
         have HS2 := Lib.hid (show seenV d nm (evS e) (m + 1) = T by rw [HSV.out, if_neg (fun h => by cases h.1)]; omega)
         go_wp2_with fail
         go_roundw
         case rel => exact ⟨m + 1, by rw [HS2.out], by go_num, by omega, HBN⟩
         case measure => simp [intOf]; omega
        | true =>
         by_cases hn : an = nm
         ·have tn : ((sB an).toList == (sB nm).toList) = true := by rw [str_eq]; simpa using hn
          by_cases h1 : e.i ≤ af
          ·have t1 : decide (e.i ≤ af) = true := by simpa using h1
           by_cases h2 : af < e.o
           ·have t2 : decide (af < e.o) = true := by simpa using h2
            have HS2 := Lib.hid (show seenV d nm (evS e) (m + 1) = T + 1 by rw [HSV.out, if_pos ⟨rfl, hn, h1, h2⟩])
            clear h1 h2 hn HSV
            go_wp2_with fail
            go_roundw
            case rel => exact ⟨m + 1, by rw [HS2.out], by go_num, by omega, HBN⟩
            case measure => simp [intOf]; omega
           ·have t2 : decide (af < e.o) = false := by simpa using h2
            have HS2 := Lib.hid (show seenV d nm (evS e) (m + 1) = T by rw [HSV.out, if_neg (fun h => h2 h.2.2.2)]; omega)
            clear h1 h2 hn HSV
            go_wp2_with fail
            go_roundw
            case rel => exact ⟨m + 1, by rw [HS2.out], by go_num, by omega, HBN⟩
            case measure => simp [intOf]; omega
          ·have t1 : decide (e.i ≤ af) = false := by simpa using h1
           have HS2 := Lib.hid (show seenV d nm (evS e) (m + 1) = T by rw [HSV.out, if_neg (fun h => h1 h.2.2.1)]; omega)
           clear h1 hn HSV
           go_wp2_with fail
           go_roundw
           case rel => exact ⟨m + 1, by rw [HS2.out], by go_num, by omega, HBN⟩
           case measure => simp [intOf]; omega
         ·have tn : ((sB an).toList == (sB nm).toList) = false := by rw [str_eq]; simpa using hn
          have HS2 := Lib.hid (show seenV d nm (evS e) (m + 1) = T by rw [HSV.out, if_neg (fun h => hn h.2.1)]; omega)
          clear hn HSV
          go_wp2_with fail
          go_roundw
          case rel => exact ⟨m + 1, by rw [HS2.out], by go_num, by omega, HBN⟩
          case measure => simp [intOf]; omega
       ·obtain rfl : m = N := by omega
        have tm : decide ((m : Int) < (m : Int)) = false := by simp
        have HTS := Lib.hid (show seenV d nm (evS e) m = parS dd.evs 0 parts by rw [← HFO.out.seen, HRN.out])
        obtain ⟨T, hT⟩ : ∃ T, T = seenV d nm (evS e) m := ⟨_, rfl⟩
        rw [← hT] at HTS ⊢
        have z2 : w14.cell? ⟨Z, 2, none⟩ = some (.slice p nP pq) := Z14.out.cell 2
        have hZ14 : Z < w14.heap.size := Z14.out.lt
        clear hT hmn
        go_wp2_with fail
        have BR14 := Lib.hid (show Below w8.heap.size w8 w14 from BR13.out.trans (BQ14.out.mono BR13.out.size))
        have HPI14 := Lib.hid (HPI13.out.ext BQ14.out)
        clear z2 hZ14 B14 BQ14 BR13 HPI13 Z13 U13 hX14 X14
        have tT : (T != T) = false := by simp
        have tl : (lost != lost) = false := by simp
        go_loopw [16, 130] (fun pv kv wr => ∃ (q : Nat) (n : Int), pv = .int .i64 n ∧ kv = .int .i64 q ∧ q ≤ nP ∧ 0 ≤ n ∧ n ≤ 5184000 * q ∧ Hid (parS dd.evs n (parts.drop q) = T) ∧ Hid (Below w14.heap.size w14 wr)) (fun _ kv _ => nP - (intOf kv).toNat)
        case atStart => exact ⟨0, 0, rfl, rfl, Nat.zero_le _, Int.le_refl _, by omega, Lib.hid HTS.out.symm, Lib.hid (Below.refl _ _)⟩
        case round =>
         obtain ⟨g, n, rfl, rfl, hg, hn0, hn1, HPS, BQ⟩ := hrel
         have BR := Lib.hid (show Below w8.heap.size w8 wr from BR14.out.trans (BQ.out.mono BR14.out.size))
         by_cases hgn : g < nP
         ·have hgn2 : (g : Int) < (nP : Int) := by omega
          obtain ⟨id, hid⟩ : ∃ id, parts[g]? = some id := ⟨_, List.getElem?_eq_getElem (by have := HNP.out; omega)⟩
          obtain ⟨kk, y, hk1, hk2, y0, y1, y2⟩ := HFO.out.parts id (List.mem_of_getElem? hid)
          have HP2 := Lib.hid (show parS dd.evs (n + (y.o - y.i)) (parts.drop (g + 1)) = T by
           rw [← HPS.out, parS_drop hid, hk1, Int.toNat_natCast, hk2])
          obtain ⟨pb, po, rfl, pc⟩ := (HPI14.out.ext BQ.out) g (.int .i64 id) (by rw [List.getElem?_map, hid]; rfl)
          have hpb : pb < wr.heap.size := World.block_lt_of_cell? wr _ pc
          have YR := Lib.hid (Y8.out.ext BR.out)
          have hYr : Y < wr.heap.size := YR.out.lt
          have q := YR.out.cell
          unfold Dc.cs at q
          have HK2 := Lib.hid hk2
          have HK1 := Lib.hid hk1
          have hkE : kk < nE := by rw [HNE.out]; exact (List.getElem?_eq_some_iff.1 hk2).1
          clear hid hk1 hk2 HPS
          go_wp2_with fail
          clear q pc
          refine (show Calls Tryz.prog 11 #[dd.v (.slice rA nR rc) (.slice eA nE ec) (.slice cA nK cc), .int .i64 id] wr _ from dfind_any dd _ _ _ id wr (SeqAt.ext HDA8.out.evs EvC.stays BR.out) (by rw [← HNE.out]; omega)).mono ?_
          rintro e1 w15 ⟨rfl, hb⟩
          rw [HK1.out]
          have Y15 := Lib.hid (YR.out.ext hb)
          have BQ15 := Lib.hid (show Below w14.heap.size w14 w15 from BQ.out.trans (hb.mono BQ.out.size))
          have BR15 := Lib.hid (show Below w8.heap.size w8 w15 from BR.out.trans (hb.mono BR.out.size))
          clear hb YR BR BQ
          obtain ⟨yb, yo, yr, rfl, ⟨p0, p1, p2, p3, p4, p5, p6⟩, _⟩ := EvsAt.get (SeqAt.ext HDA8.out.evs EvC.stays BR15.out) HK2.out
          have hk3 : (kk : Int) < (nE : Int) := by omega
          have tk1 : decide ((kk : Int) < 0) = false := by simp
          have tk2 : decide ((nE : Int) ≤ (kk : Int)) = false := by simp; omega
          have tk3 : decide (nE ≤ kk) = false := by simp; omega
          have y6 : w15.cell? ⟨Y, 6, none⟩ = some (.slice (some ⟨yb, yo, none⟩) nE ec) := Y15.out.cell 6
          have hY15 : Y < w15.heap.size := Y15.out.lt
          have hyb : yb < w15.heap.size := World.block_lt_of_cell? w15 _ p0
          have wr1 : IntKind.i64.wrap (y.o - y.i) = y.o - y.i := by rw [IntKind.wrap_i64]; omega
          have wr2 : IntKind.i64.wrap (n + (y.o - y.i)) = n + (y.o - y.i) := by rw [IntKind.wrap_i64]; omega
          clear p0 p3 p4 p5 p6
          go_wp2_with fail
          go_region
          clear p1 p2 y6
          simp only [Exit.inBlock, Exit.then]
          go_step
          go_wp2_with fail
          go_roundw
          case rel => exact ⟨g + 1, n + (y.o - y.i), rfl, by go_num, by omega, by omega, by omega, HP2, Lib.hid BQ15.out.drew⟩
          case measure => simp [intOf]; omega
         ·obtain rfl : g = nP := by omega
          obtain rfl : n = T := by rw [← HPS.out, HNP.out, List.drop_length]; rfl
          have BW := Lib.hid (show Below w.heap.size w wr from B8.out.trans (BR.out.mono B8.out.size))
          have XR := Lib.hid (X8.out.ext BR.out)
          have ZR := Lib.hid (Z14.out.ext BQ.out)
          have UR := Lib.hid (U14.out.ext BQ.out)
          have hXr : X < wr.heap.size := XR.out.lt
          have hZr : Z < wr.heap.size := ZR.out.lt
          have q := XR.out.cell
          unfold Lst.cs at q
          have z0 : wr.cell? ⟨Z, 0, none⟩ = some (.string (sB nm)) := ZR.out.cell 0
          clear hgn HPS
          go_wp2_with fail
          clear q z0
          refine (HPL.out wr BW.out nm).mono ?_
          unfold RetP
          rintro e1 w16 ⟨⟨rv, rfl, ho⟩, hb⟩
          rw [show (plyG d nm).2 = 0 from HFO.out.play]
          have Z16 := Lib.hid (ZR.out.ext hb)
          have U16 := Lib.hid (UR.out.ext hb)
          have BR16 := Lib.hid (show Below w8.heap.size w8 w16 from BR.out.trans (hb.mono BR.out.size))
          obtain ⟨A5, c5, e5, hr5, _⟩ := row_of_ownK ho
          subst e5
          have HR5 := Lib.hid hr5
          have HGL := Lib.hid HFO.out.gl
          have HGG := Lib.hid HFO.out.gaps
          have HGO := Lib.hid HFO.out.lost
          have HPLN := Lib.hid HFO.out.pl
          dsimp only at HGL HGG HGO HPLN
          clear hb ho hr5 XR ZR UR BW BR BQ hXr hZr
          generalize (plyG d nm).1 = PL at *
          have u0 : w16.cell? ⟨U, 0, none⟩ = some (.int .i64 e.i) := U16.out.cell 0
          have u1 : w16.cell? ⟨U, 1, none⟩ = some (.int .i64 e.o) := U16.out.cell 1
          have hU16 : U < w16.heap.size := U16.out.lt
          go_wp2_with fail
          clear u0 u1
          refine (show Calls Tryz.prog 14 #[.slice A5 PL.length c5, spA (evS e)] w16 _ from gap_any A5 c5 PL (evS e) w16 HR5.out (by have := HPLN.out; omega)).mono ?_
          unfold RetP
          rintro e1 w17 ⟨⟨rv2, rfl, ho⟩, hb⟩
          rw [HGG.out]
          have Z17 := Lib.hid (Z16.out.ext hb)
          have BR17 := Lib.hid (show Below w8.heap.size w8 w17 from BR16.out.trans (hb.mono BR16.out.size))
          generalize (gapS PL (evS e)).1 = GL at *
          obtain ⟨A6, c6, e6, hr6, _⟩ := row_of_ownK ho
          subst e6
          have HR6 := Lib.hid hr6
          clear hb ho hr6 Z16 U16 BR16 HR5 hU16
          go_wp2_with fail
          refine (len_any A6 c6 GL w17 HR6.out (by have := HGL.out; omega)).mono ?_
          rintro e1 w18 ⟨rfl, hb⟩
          rw [HGO.out]
          have Z18 := Lib.hid (Z17.out.ext hb)
          have BR18 := Lib.hid (show Below w8.heap.size w8 w18 from BR17.out.trans (hb.mono BR17.out.size))
          clear hb Z17 BR17
          have z3 : w18.cell? ⟨Z, 3, none⟩ = some (.int .i64 lost) := Z18.out.cell 3
          have z4 : w18.cell? ⟨Z, 4, none⟩ = some (.slice none 0 0) := Z18.out.cell 4
          have hZ18 : Z < w18.heap.size := Z18.out.lt
          dsimp only
          go_wp2_with fail
          go_roundw
          case rel => exact ⟨k + 1, by go_num, by omega, BR18⟩
          case measure => simp [intOf]; omega
     ·obtain rfl : k = nF := by omega
      go_wp2_with fail
      go_ret
      exact ⟨rfl, BW.out⟩
   ·have t0 : (qe != 0) = true := by simpa using h0
    go_wp2_with fail
    go_ret
    exact ⟨rfl, B7.out.trans ((Below.more' _ _).mono B7.out.size)⟩
end Go.Proofs.YtmopjhbfobmklaaGreatDoor
