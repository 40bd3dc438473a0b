/-
  The contract of Conform. Its conditions are its hypotheses.
-/
import Derived.Test.YtmopjhbfobmklaaGreatDoorMHc
import Derived.BigRegion
set_option maxRecDepth 100000
set_option maxHeartbeats 40000000
namespace Go.Proofs.YtmopjhbfobmklaaGreatDoor
open Go.RowKit Go.Joins
set_option linter.unusedVariables false
set_option linter.unusedSimpArgs false
def PhiCfY (X Y N nF fc2 nP pc : Nat) (fA2 PA : Option Addr) (x : Rd) (y : Ev) (lo : Int) : Nat → Value → Prop
 | 66, v => v = .slice fA2 nF fc2
 | 67, v => v = .pointer (some ⟨Y, 0, none⟩)
 | 68, v => v = .string (sB x.reel)
 | 69, v => v = .pointer (some ⟨X, 0, none⟩)
 | 70, v => v = .int .i64 y.id
 | 71, v => v = .pointer (some ⟨X, 1, none⟩)
 | 72, v => v = .agg #[.int .i64 y.i, .int .i64 y.o]
 | 73, v => v = .slice PA nP pc
 | 74, v => v = .int .i64 lo
 | 75, v => v = .agg #[.string (sB x.reel), .int .i64 y.id, .slice none 0 0, .int .i64 lo, .slice none 0 0]
 | _, _ => True
def PhiCf (X Y N nF fc2 nP pc : Nat) (fA2 PA : Option Addr) (x : Rd) (y : Ev) (lo : Int) (sl : Nat) (v : Value) (w : World) : Prop := PhiCfY X Y N nF fc2 nP pc fA2 PA x y lo sl v ∧ (sl = 76 → (fun v w => ∃ h, v = .slice (some ⟨h, 0, none⟩) 1 1 ∧ N ≤ h ∧ Held w h [.string (sB x.reel), .int .i64 y.id, .slice none 0 0, .int .i64 lo, .slice none 0 0]) v w)
theorem PhiCf.ext (X Y N nF fc2 nP pc : Nat) (fA2 PA : Option Addr) (x : Rd) (y : Ev) (lo : Int) {w w' : World} (hb : Below w.heap.size w w') : ∀ sl v, PhiCf X Y N nF fc2 nP pc fA2 PA x y lo sl v w → PhiCf X Y N nF fc2 nP pc fA2 PA x y lo sl v w' := fun sl v h => ⟨h.1, fun e => (fun q hb => let ⟨h1, h2, h3, h4⟩ := q; ⟨h1, h2, h3, h4.ext hb⟩) (h.2 e) hb⟩
def PhiCgY (G N b nR nL cp1 : Nat) (A1 : Option Addr) (l : List Rd) (d : Lst) (lg : List UInt8) : Nat → Value → Prop
 | 80, v => v = .pointer (some ⟨G, 0, none⟩)
 | 81, v => v = .string (sB d.title)
 | 82, v => v = .slice A1 nL cp1
 | 83, v => v = .string (sB lg)
 | 84, v => v = .pointer (some ⟨G, 1, none⟩)
 | 85, v => v = .int .u8 d.rate
 | 86, v => v = .pointer (some ⟨G, 2, none⟩)
 | 87, v => v = .bool d.drop
 | 88, v => v = .slice A1 nL cp1
 | _, _ => True
def PhiCg (G N b nR nL cp1 : Nat) (A1 : Option Addr) (l : List Rd) (d : Lst) (lg : List UInt8) (sl : Nat) (v : Value) (w : World) : Prop := PhiCgY G N b nR nL cp1 A1 l d lg sl v ∧ (sl = 18 → (fun v w => ∃ h, v = Value.pointer (some ⟨h, 0, none⟩) ∧ N ≤ h ∧ HeldT w h 41 zdC) v w) ∧ (sl = 89 → (fun v w => ∃ A c, v = Value.slice A nR c ∧ RgP l b (.slice A nR c) w) v w) ∧ (sl = 90 → (fun v w => ∃ A c, v = Value.agg #[.string (sB d.title), .string (sB lg), .int .u8 d.rate, .bool d.drop, .int .i64 0, .slice A nR c, .slice none 0 0, .slice none 0 0] ∧ RgP l b (.slice A nR c) w) v w)
theorem PhiCg.ext (G N b nR nL cp1 : Nat) (A1 : Option Addr) (l : List Rd) (d : Lst) (lg : List UInt8) {w w' : World} (hb : Below w.heap.size w w') : ∀ sl v, PhiCg G N b nR nL cp1 A1 l d lg sl v w → PhiCg G N b nR nL cp1 A1 l d lg sl v w' := fun sl v h => ⟨h.1, fun e => (fun q hb => let ⟨h1, h2, h3, h4⟩ := q; ⟨h1, h2, h3, h4.ext hb⟩) (h.2.1 e) hb, fun e => (fun q hb => let ⟨A, c, h1, h2⟩ := q; ⟨A, c, h1, h2.ext hb⟩) (h.2.2.1 e) hb, fun e => (fun q hb => let ⟨A, c, h1, h2⟩ := q; ⟨A, c, h1, h2.ext hb⟩) (h.2.2.2 e) hb⟩
def PhiPtY (fb q Y nP pC nQ : Nat) (pA : Option Addr) : Nat → Value → Prop
 | 153, v => v = .pointer (some ⟨fb, q * 5, none⟩)
 | 154, v => v = .pointer (some ⟨fb, q * 5, none⟩)
 | 155, v => v = .pointer (some ⟨fb, q * 5, none⟩)
 | 156, v => v = .pointer (some ⟨fb, q * 5 + 2, none⟩)
 | 157, v => v = .slice pA nP pC
 | 158, v => v = .pointer (some ⟨Y, 0, none⟩)
 | 159, v => v = .int .i64 (((nQ : Nat) : Int) + 1)
 | _, _ => True
def PhiPt (b fb q Y N nP pC nQ : Nat) (pA : Option Addr) (w0 : World) (xs : List Value) (sl : Nat) (v : Value) (w : World) : Prop := PhiPtY fb q Y nP pC nQ pA sl v ∧ (sl = 160 → ∃ h, v = .slice (some ⟨h, 0, none⟩) 1 1 ∧ N ≤ h ∧ Held w h [.int .i64 (((nQ : Nat) : Int) + 1)]) ∧ (sl = 161 → ApP b N w0 (Value.slice pA nP pC).ownBlock (nP + 1) xs v w)
theorem PhiPt.ext (b fb q Y N nP pC nQ : Nat) (pA : Option Addr) (w0 : World) (xs : List Value) {w w' : World} (hb : Below w.heap.size w w') : ∀ sl v, PhiPt b fb q Y N nP pC nQ pA w0 xs sl v w → PhiPt b fb q Y N nP pC nQ pA w0 xs sl v w' := fun sl v h => ⟨h.1, fun e => let ⟨h1, h2, h3, h4⟩ := h.2.1 e; ⟨h1, h2, h3, h4.ext hb⟩, fun e => (h.2.2 e).ext hb⟩
theorem conform_any (v : Value) (l : List Rd) (d : Lst) (c : Value) (least : Int) (w : World) (h : RdsAt w v l) (hdo : RdsOk l) (hc : CutsAt w c d.cuts) (hlo : LsOk d) (hw : Wt w) (hle : 0 ≤ least ∧ least ≤ 1) :
  Calls Tryz.prog 9 #[v, d.v c, .int .i64 least] w (ConfPost l d w) := by
 have HW := ι hw
 have HC := ι hc
 have HO := ι hlo
 have HL := ι h
 have HDO := ι hdo
 have hle1 : ¬ least < 0 := by omega
 have hle2 : least ≤ 1 := hle.2
 obtain ⟨A, cp, rfl⟩ := hc.form
 obtain ⟨A1, cp1, rfl⟩ := h.form
 clear hw hc hlo h hdo hle
 obtain ⟨i0, hi, hz0, hz1, hz2⟩ := info_parts infoFt
 have HI0 := ι (And.intro hi (And.intro hz0 (And.intro hz1 hz2)))
 obtain ⟨i1, hi, hz0, hz1, hz2⟩ := info_parts infoCEv
 have HI1' := ι (And.intro hi (And.intro hz0 (And.intro hz1 hz2)))
 obtain ⟨i2, hi, hz0, hz1, hz2⟩ := info_parts infoI64
 have HI2 := ι (And.intro hi (And.intro hz0 (And.intro hz1 hz2)))
 clear hi hz0 hz1 hz2
 rw [show d.v (.slice A d.cuts.length cp) = .agg #[.string (sB d.title), .int .u8 d.rate, .bool d.drop, .slice A d.cuts.length cp] from rfl]
 obtain ⟨G, hG⟩ : ∃ G, G = w.heap.size := ⟨_, rfl⟩
 have hmm := @run_makeMap Tryz.prog
 go_enter Tryz.func9, Tryz.ntmps9
 go_wp2_with fail
 rw [← hG]
 generalize hw1 : World.alloc (World.alloc w _) _ = w1
 have F1 := ι (show HeldT w1 G 34 (d.cs (.slice A d.cuts.length cp)) by subst hw1; exact (HeldT.new hG).alloc _)
 have R1 := ι (show HeldT w1 (G + 1) 41 zdC by subst hw1; exact HeldT.new (by simp [hG]))
 have B1 := ι (show Below w.heap.size w w1 by subst hw1; exact (Below.more' _ _).alloc (by simp) _)
 have HGe := ι hG
 clear hw1 hG
 refine (ccheck_any _ l d _ w1 (SeqAt.ext HL.out RdC.stays B1.out) HDO.out (SeqAt.ext HC.out (Flat.stays _) B1.out) HO.out (HW.out.on B1.out)).mono ?_
 rintro e w2 ⟨⟨q, rfl, hq⟩, hb⟩
 have B2 := ι (B1.out.trans (hb.mono B1.out.size))
 have F2 := ι (F1.out.ext hb)
 have R2 := ι (R1.out.ext hb)
 have HQ := ι hq
 clear hb F1 R1 B1 hq
 have fq := F2.out.held.cell
 have hG2 := F2.out.lt
 have rq := R2.out.held.cell
 have ry := R2.out.held.free
 have hR2 := R2.out.lt
 unfold Lst.cs at fq
 by_cases h0 : ¬ q = 0
 ·have t0 : (q != 0) = true := by simpa using h0
  have HN0 := ι h0
  clear h0
  go_wp2_with (with_reducible refine stop_at ?_)
  unfold StopAt
  clear fq rq ry
  generalize hw3 : World.setCell _ _ _ = w3
  have R3 := ι (show HeldT w3 (G + 1) 41 zdC by subst hw3; exact R2.out.all zdC rfl)
  have B3 := ι (show Below w.heap.size w w3 by subst hw3; exact Below.all (by have := HGe.out; omega) zdC 0 B2.out)
  have fr := R3.out.held.cell
  refine bodyPost_ret (by simp [results, Tryz.results9, fr, go_sem]; try rfl) rfl ?_
  exact ConfPost.of (dd := dc0) (F := []) (dc0_at _) (fates_nil _) ⟨fun h => absurd h HN0.out, fun h => absurd (HQ.out.2 h.1) HN0.out⟩ (fun h => absurd h HN0.out) B3.out
 have h0 : q = 0 := Decidable.not_not.1 h0
 have HOK := ι (HQ.out.1 h0)
 subst h0
 clear HQ rq ry
 have hl16 := HOK.out.len
 have HEV := ι (conf_evs HOK.out)
 go_wp2_with fail
 clear fq
 generalize hw3 : World.alloc w2 _ = w3
 obtain ⟨b, hb⟩ : ∃ b, b = w2.heap.size := ⟨_, rfl⟩
 rw [← hb]
 have hG0 : G + 1 < b := by omega
 have M3 := ι (show MapS w3 b 0 (fstM l d 0) by subst hw3; rw [hb]; exact MapS.made w2)
 have B3 := ι (show Below b w2 w3 by subst hw3; rw [hb]; exact Below.more' _ _)
 have HB := ι hb
 have HWb := ι (show w.heap.size ≤ b by rw [hb]; exact B2.out.size)
 clear hw3 hb hG2 hR2
 go_loopw [10, 42] (fun ov i wr => ∃ (k : Nat) (uv : Value), uv = ov ∧ k ≤ l.length ∧ i = .int .i64 k ∧ Hid (∃ ps, FtsI wr b uv (fatK l d k) ps) ∧ Hid (MapS wr b k (fstM l d k)) ∧ Hid (Below b w2 wr)) (fun _ i _ => l.length - (intOf i).toNat)
 case atStart => exact ⟨0, _, rfl, Nat.zero_le _, rfl, ι ⟨[], FtsI.nil _ _⟩, M3, B3⟩
 case round =>
 obtain ⟨k, uv, rfl, hk, rfl, HFT, MR, BR⟩ := hrel
 have hbr : b < wr.heap.size := MR.out.lt
 have BW := ι (show Below w.heap.size w wr from B2.out.trans (BR.out.mono HWb.out))
 by_cases hlt : k < l.length
 ·have hlt2 : (k : Int) < (l.length : Int) := by omega
  obtain ⟨x, hx⟩ : ∃ x, l[k]? = some x := ⟨_, List.getElem?_eq_getElem hlt⟩
  have HXK := ι hx
  have hev : x.doc.evs.length ≤ 400 := HEV.out x (List.mem_of_getElem? hx)
  obtain ⟨g, o, r, e, s, rfl, ⟨q0, q1, q2, q3, q4, q5, q6, q7, q8⟩, hd⟩ := RdsAt.get2 HL.out BW.out hx
  obtain ⟨rA, rc, rfl⟩ := hd.regs.form
  obtain ⟨eA, ec, rfl⟩ := hd.evs.form
  obtain ⟨sA, sc, rfl⟩ := hd.cms.form
  have HD := ι hd
  have hgr : g < wr.heap.size := World.block_lt_of_cell? wr _ q0
  have hrl : (sB x.reel).size ≤ maxLen := by rw [sB_size]; exact Nat.le_trans (nm_len (HOK.out.docs k x hx).1) (by unfold maxLen; omega)
  have HST := ι (fstM_step (d := d) hx)
  have HFS := ι (fatK_step (d := d) hx)
  have hfl : (fatK l d k).length ≤ 6400 := Nat.le_trans (fatK_len HEV.out k) (by omega)
  obtain ⟨fA, fc, rfl⟩ : ∃ fA fc, uv = .slice fA (fatK l d k).length fc := by
   obtain ⟨ps, hf⟩ := HFT.out
   obtain ⟨A, c, e, _⟩ := row_of_ownK hf.own
   exact ⟨A, c, e⟩
  obtain ⟨S, hS⟩ : ∃ S, S = staN l d k := ⟨_, rfl⟩
  rw [show (fatK l d k).length = S from hS.symm] at *
  rw [← hS] at HST
  clear hx hd hS
  have MR2 := ι (MR.out.ext (Below.more' wr (.cells #[.string (sB x.reel), .string (sB x.doc.title), .string (sB x.doc.lang), .int .u8 x.doc.rate, .bool x.doc.drop, .int .i64 x.doc.last, .slice rA x.doc.regs.length rc, .slice eA x.doc.evs.length ec, .slice sA x.doc.cms.length sc] 82)))
  obtain ⟨w4, hw4⟩ : ∃ w4, w4 = wr.alloc (.cells #[.string (sB x.reel), .string (sB x.doc.title), .string (sB x.doc.lang), .int .u8 x.doc.rate, .bool x.doc.drop, .int .i64 x.doc.last, .slice rA x.doc.regs.length rc, .slice eA x.doc.evs.length ec, .slice sA x.doc.cms.length sc] 82) := ⟨_, rfl⟩
  obtain ⟨Y, hY⟩ : ∃ Y, Y = wr.heap.size := ⟨_, rfl⟩
  have Y4 := ι (show HeldT w4 Y 82 (.string (sB x.reel) :: x.doc.cs (.slice rA x.doc.regs.length rc) (.slice eA x.doc.evs.length ec) (.slice sA x.doc.cms.length sc)) by rw [hw4]; exact HeldT.new hY)
  have G4 := ι (show HeldT w4 G 34 (d.cs (.slice A d.cuts.length cp)) by rw [hw4]; exact (F2.out.below BR.out (by omega)).alloc _)
  have B4 := ι (show Below b w2 w4 by rw [hw4]; exact BR.out.alloc (Nat.le_of_lt hbr) _)
  have hbY : b < Y := by omega
  have hY4 : Y < w4.heap.size := Y4.out.lt
  have HW4 := ι hw4
  have HYE := ι hY
  clear hw4 hY
  go_wp2_with (at_mapUpdate; go_loud (refine wpList_putS rfl _ _ _ rfl rfl MR2.out (by unfold maxLen; omega) (sB x.reel) hrl (S : Int) rfl rfl ?_; intro wm hm hg'; have hg : w4.grownBy wm (some b) := HW4.out ▸ hg'; clear hg'; have fq := (show HeldT wm G 34 (d.cs (.slice A d.cuts.length cp)) from (hg.block G (by omega) (fun e => by cases e; omega)).trans G4.out).held.cell; have fy := (show HeldT wm Y 82 (.string (sB x.reel) :: x.doc.cs (.slice rA x.doc.regs.length rc) (.slice eA x.doc.evs.length ec) (.slice sA x.doc.cms.length sc)) from (hg.block Y (by omega) (fun e => by cases e; omega)).trans Y4.out).held.cell; have hGm : G < wm.heap.size := (by have := hg.size; omega); have hYm : Y < wm.heap.size := (by have := hg.size; omega); have hYm' : wr.heap.size < wm.heap.size := (by have := HYE.out; omega); unfold Lst.cs at fq; unfold Dc.cs at fy; rw [HYE.out] at fy))
  clear fq fy q0 q1 q2 q3 q4 q5 q6 q7 q8
  have Bm := ι (show Below b w2 wm from B4.out.grown hg (by omega) (fun k' hk' => by cases hk'; exact Nat.le_refl _))
  have Mm := ι (show MapS wm b (k + 1) (fstM l d (k + 1)) by rw [HST.out]; have := hm; rw [sB_list] at this; exact this)
  have Ym := ι (show HeldT wm Y 82 (.string (sB x.reel) :: x.doc.cs (.slice rA x.doc.regs.length rc) (.slice eA x.doc.evs.length ec) (.slice sA x.doc.cms.length sc)) from (hg.block Y (by omega) (fun e => by cases e; omega)).trans Y4.out)
  have HFm := ι (show ∃ ps, FtsI wm b (.slice fA S fc) (fatK l d k) ps by
   obtain ⟨ps, hf⟩ := HFT.out
   exact ⟨ps, (show FtsI w4 b _ _ _ by rw [HW4.out]; exact hf.ext (Below.more' _ _)).mapped (show MapS w4 b k _ by rw [HW4.out]; exact MR2.out) hg⟩)
  have BWm := ι (show Below w.heap.size w wm from B2.out.trans (Bm.out.mono HWb.out))
  have hbm : b < wm.heap.size := Mm.out.lt
  clear hm hg MR2 Y4 G4 B4 hY4 HFT MR BR BW hgr HST hGm hYm hYm' HW4 hbr
  refine (played_any d _ x.reel wm (SeqAt.ext HC.out (Flat.stays _) BWm.out) HO.out (HW.out.on BWm.out)).mono ?_
  unfold RetP
  rintro e' w5 ⟨⟨pv, rfl, ho⟩, hb'⟩
  obtain ⟨PL, hPL⟩ : ∃ PL, PL = (plyG d x.reel).1 := ⟨_, rfl⟩
  have hpl : PL.length ≤ 400 := by rw [hPL]; exact ply_res d x.reel
  rw [← hPL] at ho
  obtain ⟨PA, pc, e6, _⟩ := row_of_ownK ho
  subst e6
  have P5 := ι (ownsRow_mono ho (Nat.le_of_lt hbm))
  have B5 := ι (Bm.out.trans (hb'.mono (Nat.le_of_lt hbm)))
  have M5 := ι (Mm.out.ext hb')
  have Y5 := ι (Ym.out.ext hb')
  have HF5 := ι (show ∃ ps, FtsI w5 b (.slice fA S fc) (fatK l d k) ps by
   obtain ⟨ps, hf⟩ := HFm.out
   exact ⟨ps, hf.ext hb'⟩)
  have HPL := ι hPL
  have hY5 : Y < w5.heap.size := Y5.out.lt
  have fy := Y5.out.held.cell
  unfold Dc.cs at fy
  rw [HYE.out] at fy hY5
  clear ho hb' hPL Bm Mm Ym HFm BWm hbm
  go_wp2_with fail
  clear fy
  rw [← HYE.out] at hY5 ⊢
  have HFS2 := ι (show fatK l d (k + 1) = fatK l d k ++ fatR d x from HFS.out)
  go_loopw [10, 62] (fun ov i wq => ∃ (j : Nat) (uu : Value), uu = ov ∧ j ≤ x.doc.evs.length ∧ i = .int .i64 j ∧ Hid (∃ ps, FtsI wq b uu (fatK l d k ++ (fatR d x).take j) ps) ∧ Hid (MapS wq b (k + 1) (fstM l d (k + 1))) ∧ Hid (HeldT wq Y 82 (.string (sB x.reel) :: x.doc.cs (.slice rA x.doc.regs.length rc) (.slice eA x.doc.evs.length ec) (.slice sA x.doc.cms.length sc))) ∧ Hid (wq.ownsRow b 29 2 (.slice PA PL.length pc) PL.length (PL.flatMap spV)) ∧ Hid (Below b w2 wq)) (fun _ i _ => x.doc.evs.length - (intOf i).toNat)
  case atStart => exact ⟨0, _, rfl, Nat.zero_le _, rfl, by simpa using HF5, M5, Y5, P5, B5⟩
  case round =>
  obtain ⟨j, uu, rfl, hj, rfl, HFT, MR, YR, PR, BR⟩ := hrel
  have hbr : b < wr.heap.size := MR.out.lt
  have BW := ι (show Below w.heap.size w wr from B2.out.trans (BR.out.mono HWb.out))
  by_cases hjt : j < x.doc.evs.length
  ·have hjt2 : (j : Int) < (x.doc.evs.length : Int) := by omega
   obtain ⟨y, hy⟩ : ∃ y, x.doc.evs[j]? = some y := ⟨_, List.getElem?_eq_getElem hjt⟩
   have HJS := ι (fatR_step (d := d) hy)
   obtain ⟨b2, o2, r2, rfl, ⟨p0, p1, p2, p3, p4, p5, p6⟩, hrr⟩ := EvsAt.get (SeqAt.ext HD.out.evs EvC.stays BW.out) hy
   obtain ⟨rA2, rc2, rfl⟩ := hrr.form
   have hb2 : b2 < wr.heap.size := World.block_lt_of_cell? wr _ p0
   obtain ⟨F, hF⟩ : ∃ F, F = fatK l d k ++ (fatR d x).take j := ⟨_, rfl⟩
   have hFl : F.length ≤ 6800 := by rw [hF, List.length_append, List.length_take, fatR_len]; have := fatK_len (d := d) HEV.out k; have : k * 400 ≤ 15 * 400 := Nat.mul_le_mul_right 400 (by omega); omega
   rw [← hF] at HFT
   have HFF := ι hF
   obtain ⟨lo, hlo⟩ : ∃ lo, lo = lostV (evS y) PL := ⟨_, rfl⟩
   have HLO := ι (show ∀ W, W.ownsRow b 29 2 (.slice PA PL.length pc) PL.length (PL.flatMap spV) → Calls Tryz.prog 26 #[.agg #[.int .i64 y.i, .int .i64 y.o], .slice PA PL.length pc] W fun e w' => e = .returned (.int .i64 lo) ∧ Below W.heap.size W w' from fun W ho => by
    rw [hlo]
    obtain ⟨A9, c9, e9, h9, _⟩ := row_of_ownK ho
    cases e9
    exact lost_any (evS y) PA pc PL W h9 (by omega))
   have HLE := ι hlo
   obtain ⟨fA2, fc2, rfl⟩ : ∃ fA2 fc2, uu = .slice fA2 F.length fc2 := by
    obtain ⟨ps, hf⟩ := HFT.out
    obtain ⟨A, c, e, _⟩ := row_of_ownK hf.own
    exact ⟨A, c, e⟩
   clear hy hrr hF hlo
   go_wp2_with fail
   generalize hw6 : World.alloc wr _ = w6
   obtain ⟨X, hX⟩ : ∃ X, X = wr.heap.size := ⟨_, rfl⟩
   rw [← hX]
   have X6 := ι (show Held w6 X (y.cs (.slice rA2 y.rows.length rc2)) by subst hw6; exact Held.new hX)
   have B6 := ι (show Below wr.heap.size wr w6 by subst hw6; exact Below.more' _ _)
   clear hw6 hX p0 p1 p2 p3 p4 p5 p6
   obtain ⟨N, hN⟩ : ∃ N, N = w6.heap.size := ⟨_, rfl⟩
   have HN := ι hN
   have hXN : X < N := by have := X6.out.lt; omega
   have hbN := ι (show wr.heap.size ≤ N by have := B6.out.size; omega)
   have hYN : Y < N := by have := YR.out.lt; have := hbN.out; omega
   have HSZ := ι (show ∀ w', Below N w6 w' → N ≤ w'.heap.size from fun w' h => by have := h.size; omega)
   have HO9 := ι (show ∀ w', Below N w6 w' → w'.ownsRow b 29 2 (.slice PA PL.length pc) PL.length (PL.flatMap spV) from fun w' h => own_ext PR.out (B6.out.trans (h.mono hbN.out)))
   clear hN
   have e0 : w6.cell? ⟨X, 0, none⟩ = some (.int .i64 y.id) := X6.out.cell 0
   have e1 : w6.cell? ⟨X, 1, none⟩ = some (.int .i64 y.i) := X6.out.cell 1
   have e2 : w6.cell? ⟨X, 2, none⟩ = some (.int .i64 y.o) := X6.out.cell 2
   have d0 : w6.cell? ⟨Y, 0, none⟩ = some (.string (sB x.reel)) := (YR.out.ext B6.out).held.cell 0
   refine wp_region_spec_tail 11 (by kernel_rfl) (fun w' => Below N w6 w') (PhiCf X Y N F.length fc2 PL.length pc fA2 PA x y lo) 191 rfl (by kernel_rfl) (by kernel_rfl) (by kernel_rfl) (by kernel_rfl) (by kernel_rfl) (Below.refl _ _).drew ?hops ?hend
   case hops =>
    refine ⟨?o0, ?o1, ?o2, ?o3, ?o4, ?o5, ?o6, ?o7, ?o8, ?o9, ?o10, trivial⟩
    case o0 =>
     intro ev w8 hI δ φ
     have a10 : ev 10 = .slice fA2 F.length fc2 := φ 10 (by kernel_rfl)
     clear δ φ
     try dsimp only
     simp [OpRuns, execOp, evalOf, a10, go_sem]
     exact ⟨hI, rfl, ν rfl⟩
    case o1 =>
     intro ev w8 hI δ φ
     have a13 : ev 13 = .pointer (some ⟨Y, 0, none⟩) := φ 13 (by kernel_rfl)
     clear δ φ
     try dsimp only
     simp [OpRuns, execOp, evalOf, a13, go_sem]
     exact ⟨hI, rfl, ν rfl⟩
    case o2 =>
     intro ev w8 hI δ φ
     have a67 : ev 67 = .pointer (some ⟨Y, 0, none⟩) := (δ 1 67 (by kernel_rfl) rfl).1
     have y0 : w8.cell? ⟨Y, 0, none⟩ = some (.string (sB x.reel)) := (hI.cell (p := ⟨Y, 0, none⟩) hYN).trans d0
     clear δ φ
     try dsimp only
     simp [OpRuns, execOp, evalOf, a67, y0, go_sem]
     exact ⟨hI, rfl, ν rfl⟩
    case o3 =>
     intro ev w8 hI δ φ
     have a17 : ev 17 = .pointer (some ⟨X, 0, none⟩) := φ 17 (by kernel_rfl)
     clear δ φ
     try dsimp only
     simp [OpRuns, execOp, evalOf, a17, go_sem]
     exact ⟨hI, rfl, ν rfl⟩
    case o4 =>
     intro ev w8 hI δ φ
     have a69 : ev 69 = .pointer (some ⟨X, 0, none⟩) := (δ 3 69 (by kernel_rfl) rfl).1
     have y0 : w8.cell? ⟨X, 0, none⟩ = some (.int .i64 y.id) := (hI.cell (p := ⟨X, 0, none⟩) hXN).trans e0
     clear δ φ
     try dsimp only
     simp [OpRuns, execOp, evalOf, a69, y0, go_sem]
     exact ⟨hI, rfl, ν rfl⟩
    case o5 =>
     intro ev w8 hI δ φ
     have a17 : ev 17 = .pointer (some ⟨X, 0, none⟩) := φ 17 (by kernel_rfl)
     clear δ φ
     try dsimp only
     simp [OpRuns, execOp, evalOf, a17, go_sem]
     exact ⟨hI, rfl, ν rfl⟩
    case o6 =>
     intro ev w8 hI δ φ
     have a71 : ev 71 = .pointer (some ⟨X, 1, none⟩) := (δ 5 71 (by kernel_rfl) rfl).1
     have y0 : w8.cell? ⟨X, 1, none⟩ = some (.int .i64 y.i) := (hI.cell (p := ⟨X, 1, none⟩) hXN).trans e1
     have y1 : w8.cell? ⟨X, 2, none⟩ = some (.int .i64 y.o) := (hI.cell (p := ⟨X, 2, none⟩) hXN).trans e2
     clear δ φ
     try dsimp only
     simp [OpRuns, execOp, evalOf, a71, y0, y1, go_sem]
     exact ⟨hI, rfl, ν rfl⟩
    case o7 =>
     intro ev w8 hI δ φ
     have a14 : ev 14 = .slice PA PL.length pc := φ 14 (by kernel_rfl)
     clear δ φ
     try dsimp only
     simp [OpRuns, execOp, evalOf, a14, go_sem]
     exact ⟨hI, rfl, ν rfl⟩
    case o8 =>
     intro ev w8 hI δ φ
     have a72 : ev 72 = .agg #[.int .i64 y.i, .int .i64 y.o] := (δ 6 72 (by kernel_rfl) rfl).1
     have a73 : ev 73 = .slice PA PL.length pc := (δ 7 73 (by kernel_rfl) rfl).1
     clear δ φ
     try dsimp only
     refine runs_call (f := 26) (args := #[.agg #[.int .i64 y.i, .int .i64 y.o], .slice PA PL.length pc]) (by simp [execOp, evalOf, resolve, invoke, a72, a73, go_sem]) ((HLO.out w8 (HO9.out w8 hI)).mono ?_)
     rintro e w9 ⟨he, hb⟩
     exact ⟨_, he, hI.trans (hb.mono (HSZ.out w8 hI)), PhiCf.ext X Y N F.length fc2 PL.length pc fA2 PA x y lo hb, fun d hd => by cases hd; exact ⟨rfl, ν rfl⟩⟩
    case o9 =>
     intro ev w8 hI δ φ
     have a68 : ev 68 = .string (sB x.reel) := (δ 2 68 (by kernel_rfl) rfl).1
     have a70 : ev 70 = .int .i64 y.id := (δ 4 70 (by kernel_rfl) rfl).1
     have a74 : ev 74 = .int .i64 lo := (δ 8 74 (by kernel_rfl) rfl).1
     clear δ φ
     try dsimp only
     simp [OpRuns, execOp, evalOf, a68, a70, a74, go_sem]
     exact ⟨hI, rfl, ν rfl⟩
    case o10 =>
    intro ev w8 hI δ φ
    have a75 : ev 75 = .agg #[.string (sB x.reel), .int .i64 y.id, .slice none 0 0, .int .i64 lo, .slice none 0 0] := (δ 9 75 (by kernel_rfl) rfl).1
    clear δ φ
    try dsimp only
    simp [OpRuns, execOp, evalOf, a75, go_sem]
    exact ⟨hI.alloc (HSZ.out w8 hI) _, PhiCf.ext X Y N F.length fc2 PL.length pc fA2 PA x y lo (Below.more' _ _), trivial, fun e => ⟨_, rfl, HSZ.out w8 hI, Held.new rfl⟩⟩
   case hend =>
   intro a w7 hdf hsz hI hPhi κ
   replace hdf : a.defers = [] := hdf
   replace hsz : a.tmps.size = 191 := hsz
   have x66 : a.tmps.getD 66 undef = .slice fA2 F.length fc2 := (hPhi 0 66 (by omega) (by kernel_rfl)).1
   obtain ⟨h76, x76, hE76, hr76⟩ := (hPhi 10 76 (by omega) (by kernel_rfl)).2 rfl
   have x0 := κO κ 0 (Value.slice (some { block := g, off := o }) l.length cp1) rfl rfl
   have x1 := κO κ 1 (Value.agg #[Value.string (sB d.title), Value.int IntKind.u8 d.rate, Value.bool d.drop, Value.slice A d.cuts.length cp]) rfl rfl
   have x2 := κO κ 2 (Value.int IntKind.i64 least) rfl rfl
   have x3 := κO κ 3 (undef) rfl rfl
   have x4 := κO κ 4 (Value.pointer (some { block := G, off := 0 })) rfl rfl
   have x5 := κO κ 5 (undef) rfl rfl
   have x6 := κO κ 6 (Value.pointer (some { block := G + 1, off := 0 })) rfl rfl
   have x7 := κO κ 7 (Value.slice none 0 0) rfl rfl
   have x8 := κO κ 8 (Value.int IntKind.i64 0) rfl rfl
   have x9 := κO κ 9 (Value.int IntKind.i64 0) rfl rfl
   have x10 := κO κ 10 (Value.slice fA2 F.length fc2) rfl rfl
   have x11 := κO κ 11 (Value.map (some b)) rfl rfl
   have x12 := κO κ 12 (undef) rfl rfl
   have x13 := κO κ 13 (Value.pointer (some { block := Y, off := 0 })) rfl rfl
   have x14 := κO κ 14 (Value.slice PA PL.length pc) rfl rfl
   have x15 := κO κ 15 (Value.int IntKind.i64 (plyG d x.reel).snd) rfl rfl
   have x16 := κO κ 16 (undef) rfl rfl
   have x17 := κO κ 17 (Value.pointer (some { block := X, off := 0 })) rfl rfl
   have x18 := κO κ 18 (undef) rfl rfl
   have x19 := κO κ 19 (undef) rfl rfl
   have x20 := κO κ 20 (undef) rfl rfl
   have x21 := κO κ 21 (undef) rfl rfl
   have x22 := κO κ 22 (undef) rfl rfl
   have x23 := κO κ 23 (undef) rfl rfl
   have x24 := κO κ 24 (undef) rfl rfl
   have x25 := κO κ 25 (undef) rfl rfl
   have x26 := κO κ 26 (undef) rfl rfl
   have x27 := κO κ 27 (undef) rfl rfl
   have x28 := κO κ 28 (undef) rfl rfl
   have x29 := κO κ 29 (Value.slice (some { block := g, off := o }) l.length cp1) rfl rfl
   have x30 := κO κ 30 (Value.agg #[Value.string (sB d.title), Value.int IntKind.u8 d.rate, Value.bool d.drop, Value.slice A d.cuts.length cp]) rfl rfl
   have x31 := κO κ 31 (Value.int IntKind.i64 0) rfl rfl
   have x32 := κO κ 32 (Value.int IntKind.i64 0) rfl rfl
   have x33 := κO κ 33 (Value.bool false) rfl rfl
   have x34 := κO κ 34 (undef) rfl rfl
   have x35 := κO κ 35 (undef) rfl rfl
   have x36 := κO κ 36 (Value.int IntKind.i64 least) rfl rfl
   have x37 := κO κ 37 (Value.bool (decide (least < 0))) rfl rfl
   have x38 := κO κ 38 (undef) rfl rfl
   have x39 := κO κ 39 (Value.map (some b)) rfl rfl
   have x40 := κO κ 40 (Value.slice (some { block := g, off := o }) l.length cp1) rfl rfl
   have x41 := κO κ 41 (Value.int IntKind.i64 (↑l.length : Int)) rfl rfl
   have x42 := κO κ 42 (Value.int IntKind.i64 (↑k : Int)) rfl rfl
   have x43 := κO κ 43 (Value.bool true) rfl rfl
   have x44 := κO κ 44 (Value.pointer (some { block := g, off := o + k * 9 })) rfl rfl
   have x45 := κO κ 45 (Value.agg #[Value.string (sB x.reel), Value.string (sB x.doc.title), Value.string (sB x.doc.lang), Value.int IntKind.u8 x.doc.rate, Value.bool x.doc.drop, Value.int IntKind.i64 x.doc.last, Value.slice rA x.doc.regs.length rc, Value.slice (some { block := b2, off := o2 }) x.doc.evs.length ec, Value.slice sA x.doc.cms.length sc]) rfl rfl
   have x46 := κO κ 46 (Value.map (some b)) rfl rfl
   have x47 := κO κ 47 (Value.pointer (some { block := Y, off := 0 })) rfl rfl
   have x48 := κO κ 48 (Value.string (sB x.reel)) rfl rfl
   have x49 := κO κ 49 (Value.slice fA S fc) rfl rfl
   have x50 := κO κ 50 (Value.int IntKind.i64 (↑S : Int)) rfl rfl
   have x51 := κO κ 51 (Value.tuple #[Value.slice PA PL.length pc, Value.int IntKind.i64 (plyG d x.reel).snd]) rfl rfl
   have x52 := κO κ 52 (Value.agg #[Value.string (sB d.title), Value.int IntKind.u8 d.rate, Value.bool d.drop, Value.slice A d.cuts.length cp]) rfl rfl
   have x53 := κO κ 53 (Value.pointer (some { block := Y, off := 0 })) rfl rfl
   have x54 := κO κ 54 (Value.string (sB x.reel)) rfl rfl
   have x55 := κO κ 55 (Value.tuple #[Value.slice PA PL.length pc, Value.int IntKind.i64 (plyG d x.reel).snd]) rfl rfl
   have x56 := κO κ 56 (Value.slice PA PL.length pc) rfl rfl
   have x57 := κO κ 57 (Value.int IntKind.i64 (plyG d x.reel).snd) rfl rfl
   have x58 := κO κ 58 (Value.pointer (some { block := Y, off := 1 })) rfl rfl
   have x59 := κO κ 59 (Value.pointer (some { block := Y, off := 7 })) rfl rfl
   have x60 := κO κ 60 (Value.slice (some { block := b2, off := o2 }) x.doc.evs.length ec) rfl rfl
   have x61 := κO κ 61 (Value.int IntKind.i64 (↑x.doc.evs.length : Int)) rfl rfl
   have x62 := κO κ 62 (Value.int IntKind.i64 (↑j : Int)) rfl rfl
   have x63 := κO κ 63 (Value.bool true) rfl rfl
   have x64 := κO κ 64 (Value.pointer (some { block := b2, off := o2 + j * 7 })) rfl rfl
   have x65 := κO κ 65 (Value.agg #[Value.int IntKind.i64 y.id, Value.int IntKind.i64 y.i, Value.int IntKind.i64 y.o, Value.string (sB y.reg), Value.int IntKind.u8 y.kind, Value.string (sB y.spk), Value.slice rA2 y.rows.length rc2]) rfl rfl
   have x77 := κO κ 77 (u77) rfl rfl
   have x78 := κO κ 78 (u78) rfl rfl
   have x79 := κO κ 79 (u79) rfl rfl
   have x80 := κO κ 80 (undef) rfl rfl
   have x81 := κO κ 81 (undef) rfl rfl
   have x82 := κO κ 82 (undef) rfl rfl
   have x83 := κO κ 83 (undef) rfl rfl
   have x84 := κO κ 84 (undef) rfl rfl
   have x85 := κO κ 85 (undef) rfl rfl
   have x86 := κO κ 86 (undef) rfl rfl
   have x87 := κO κ 87 (undef) rfl rfl
   have x88 := κO κ 88 (undef) rfl rfl
   have x89 := κO κ 89 (undef) rfl rfl
   have x90 := κO κ 90 (undef) rfl rfl
   have x91 := κO κ 91 (undef) rfl rfl
   have x92 := κO κ 92 (undef) rfl rfl
   have x93 := κO κ 93 (undef) rfl rfl
   have x94 := κO κ 94 (undef) rfl rfl
   have x95 := κO κ 95 (undef) rfl rfl
   have x96 := κO κ 96 (undef) rfl rfl
   have x97 := κO κ 97 (undef) rfl rfl
   have x98 := κO κ 98 (undef) rfl rfl
   have x99 := κO κ 99 (undef) rfl rfl
   have x100 := κO κ 100 (undef) rfl rfl
   have x101 := κO κ 101 (undef) rfl rfl
   have x102 := κO κ 102 (undef) rfl rfl
   have x103 := κO κ 103 (undef) rfl rfl
   have x104 := κO κ 104 (undef) rfl rfl
   have x105 := κO κ 105 (undef) rfl rfl
   have x106 := κO κ 106 (undef) rfl rfl
   have x107 := κO κ 107 (undef) rfl rfl
   have x108 := κO κ 108 (undef) rfl rfl
   have x109 := κO κ 109 (undef) rfl rfl
   have x110 := κO κ 110 (undef) rfl rfl
   have x111 := κO κ 111 (undef) rfl rfl
   have x112 := κO κ 112 (undef) rfl rfl
   have x113 := κO κ 113 (undef) rfl rfl
   have x114 := κO κ 114 (undef) rfl rfl
   have x115 := κO κ 115 (undef) rfl rfl
   have x116 := κO κ 116 (undef) rfl rfl
   have x117 := κO κ 117 (undef) rfl rfl
   have x118 := κO κ 118 (undef) rfl rfl
   have x119 := κO κ 119 (undef) rfl rfl
   have x120 := κO κ 120 (undef) rfl rfl
   have x121 := κO κ 121 (undef) rfl rfl
   have x122 := κO κ 122 (undef) rfl rfl
   have x123 := κO κ 123 (undef) rfl rfl
   have x124 := κO κ 124 (undef) rfl rfl
   have x125 := κO κ 125 (undef) rfl rfl
   have x126 := κO κ 126 (undef) rfl rfl
   have x127 := κO κ 127 (undef) rfl rfl
   have x128 := κO κ 128 (undef) rfl rfl
   have x129 := κO κ 129 (undef) rfl rfl
   have x130 := κO κ 130 (undef) rfl rfl
   have x131 := κO κ 131 (undef) rfl rfl
   have x132 := κO κ 132 (undef) rfl rfl
   have x133 := κO κ 133 (undef) rfl rfl
   have x134 := κO κ 134 (undef) rfl rfl
   have x135 := κO κ 135 (undef) rfl rfl
   have x136 := κO κ 136 (undef) rfl rfl
   have x137 := κO κ 137 (undef) rfl rfl
   have x138 := κO κ 138 (undef) rfl rfl
   have x139 := κO κ 139 (undef) rfl rfl
   have x140 := κO κ 140 (undef) rfl rfl
   have x141 := κO κ 141 (undef) rfl rfl
   have x142 := κO κ 142 (undef) rfl rfl
   have x143 := κO κ 143 (undef) rfl rfl
   have x144 := κO κ 144 (undef) rfl rfl
   have x145 := κO κ 145 (undef) rfl rfl
   have x146 := κO κ 146 (undef) rfl rfl
   have x147 := κO κ 147 (undef) rfl rfl
   have x148 := κO κ 148 (undef) rfl rfl
   have x149 := κO κ 149 (undef) rfl rfl
   have x150 := κO κ 150 (undef) rfl rfl
   have x151 := κO κ 151 (undef) rfl rfl
   have x152 := κO κ 152 (undef) rfl rfl
   have x153 := κO κ 153 (undef) rfl rfl
   have x154 := κO κ 154 (undef) rfl rfl
   have x155 := κO κ 155 (undef) rfl rfl
   have x156 := κO κ 156 (undef) rfl rfl
   have x157 := κO κ 157 (undef) rfl rfl
   have x158 := κO κ 158 (undef) rfl rfl
   have x159 := κO κ 159 (undef) rfl rfl
   have x160 := κO κ 160 (undef) rfl rfl
   have x161 := κO κ 161 (undef) rfl rfl
   have x162 := κO κ 162 (undef) rfl rfl
   have x163 := κO κ 163 (undef) rfl rfl
   have x164 := κO κ 164 (undef) rfl rfl
   have x165 := κO κ 165 (undef) rfl rfl
   have x166 := κO κ 166 (undef) rfl rfl
   have x167 := κO κ 167 (undef) rfl rfl
   have x168 := κO κ 168 (undef) rfl rfl
   have x169 := κO κ 169 (undef) rfl rfl
   have x170 := κO κ 170 (undef) rfl rfl
   have x171 := κO κ 171 (undef) rfl rfl
   have x172 := κO κ 172 (undef) rfl rfl
   have x173 := κO κ 173 (undef) rfl rfl
   have x174 := κO κ 174 (undef) rfl rfl
   have x175 := κO κ 175 (undef) rfl rfl
   have x176 := κO κ 176 (undef) rfl rfl
   have x177 := κO κ 177 (undef) rfl rfl
   have x178 := κO κ 178 (undef) rfl rfl
   have x179 := κO κ 179 (undef) rfl rfl
   have x180 := κO κ 180 (undef) rfl rfl
   have x181 := κO κ 181 (undef) rfl rfl
   have x182 := κO κ 182 (undef) rfl rfl
   have x183 := κO κ 183 (undef) rfl rfl
   have x184 := κO κ 184 (undef) rfl rfl
   have x185 := κO κ 185 (undef) rfl rfl
   have x186 := κO κ 186 (undef) rfl rfl
   have x187 := κO κ 187 (undef) rfl rfl
   have x188 := κO κ 188 (undef) rfl rfl
   have x189 := κO κ 189 (undef) rfl rfl
   have x190 := κO κ 190 (undef) rfl rfl
   have ea := act_lit hsz hdf
   simp only [getDs] at ea
   rw [x66, x76, x0, x1, x2, x3, x4, x5, x6, x7, x8, x9, x10, x11, x12, x13, x14, x15, x16, x17, x18, x19, x20, x21, x22, x23, x24, x25, x26, x27, x28, x29, x30, x31, x32, x33, x34, x35, x36, x37, x38, x39, x40, x41, x42, x43, x44, x45, x46, x47, x48, x49, x50, x51, x52, x53, x54, x55, x56, x57, x58, x59, x60, x61, x62, x63, x64, x65, x77, x78, x79, x80, x81, x82, x83, x84, x85, x86, x87, x88, x89, x90, x91, x92, x93, x94, x95, x96, x97, x98, x99, x100, x101, x102, x103, x104, x105, x106, x107, x108, x109, x110, x111, x112, x113, x114, x115, x116, x117, x118, x119, x120, x121, x122, x123, x124, x125, x126, x127, x128, x129, x130, x131, x132, x133, x134, x135, x136, x137, x138, x139, x140, x141, x142, x143, x144, x145, x146, x147, x148, x149, x150, x151, x152, x153, x154, x155, x156, x157, x158, x159, x160, x161, x162, x163, x164, x165, x166, x167, x168, x169, x170, x171, x172, x173, x174, x175, x176, x177, x178, x179, x180, x181, x182, x183, x184, x185, x186, x187, x188, x189, x190] at ea
   rw [ea]
   clear ea x66 x76 x0 x1 x2 x3 x4 x5 x6 x7 x8 x9 x10 x11 x12 x13 x14 x15 x16 x17 x18 x19 x20 x21 x22 x23 x24 x25 x26 x27 x28 x29 x30 x31 x32 x33 x34 x35 x36 x37 x38 x39 x40 x41 x42 x43 x44 x45 x46 x47 x48 x49 x50 x51 x52 x53 x54 x55 x56 x57 x58 x59 x60 x61 x62 x63 x64 x65 x77 x78 x79 x80 x81 x82 x83 x84 x85 x86 x87 x88 x89 x90 x91 x92 x93 x94 x95 x96 x97 x98 x99 x100 x101 x102 x103 x104 x105 x106 x107 x108 x109 x110 x111 x112 x113 x114 x115 x116 x117 x118 x119 x120 x121 x122 x123 x124 x125 x126 x127 x128 x129 x130 x131 x132 x133 x134 x135 x136 x137 x138 x139 x140 x141 x142 x143 x144 x145 x146 x147 x148 x149 x150 x151 x152 x153 x154 x155 x156 x157 x158 x159 x160 x161 x162 x163 x164 x165 x166 x167 x168 x169 x170 x171 x172 x173 x174 x175 x176 x177 x178 x179 x180 x181 x182 x183 x184 x185 x186 x187 x188 x189 x190 hPhi κ hdf hsz
   generalize a.tmps.getD 67 undef = u67, a.tmps.getD 68 undef = u68, a.tmps.getD 69 undef = u69, a.tmps.getD 70 undef = u70, a.tmps.getD 71 undef = u71, a.tmps.getD 72 undef = u72, a.tmps.getD 73 undef = u73, a.tmps.getD 74 undef = u74, a.tmps.getD 75 undef = u75
   clear a
   have B7 := ι (show Below wr.heap.size wr w7 from B6.out.trans (hI.mono hbN.out))
   have BR7 := ι (show Below b w2 w7 from BR.out.trans (B7.out.mono (Nat.le_of_lt hbr)))
   have M7 := ι (MR.out.ext B7.out)
   have Y7 := ι (YR.out.ext B7.out)
   have P7 := ι (own_ext PR.out B7.out)
   obtain ⟨ps, hf⟩ := HFT.out
   have HF7 := ι (hf.ext B7.out)
   have X7 := ι hr76
   have hb7 : b ≤ w7.heap.size := by have := M7.out.lt; omega
   clear hf e0 e1 e2 d0 hXN hYN hI hr76 hE76 B6 X6 HFT MR YR PR BR BW HSZ HO9
   have ZC := ι (CellsAt.of_all (w := w7) (g := h76) (k := 0) (l := [.string (sB x.reel), .int .i64 y.id, .slice none 0 0, .int .i64 lo, .slice none 0 0]) (fun j u hu => by rw [Addr.add_lit, Nat.zero_add, X7.out.cell]; exact hu))
   go_loud (refine wpList_append_own _ rfl _ _ 42 rfl b 48 i0 (.agg #[.string ⟨#[]⟩, .int .i64 0, .slice none 0 0, .int .i64 0, .slice none 0 0]) 5 80 Tryz.underlying42 HI0.out.1 HI0.out.2.1 HI0.out.2.2.1 HI0.out.2.2.2 rfl (by decide) _ F.length _ rfl HF7.out.own ⟨h76, 0, none⟩ 1 1 [.string (sB x.reel), .int .i64 y.id, .slice none 0 0, .int .i64 lo, .slice none 0 0] rfl rfl (CellsAt.all ZC.out) (by simp [Value.oneCell']) (by simp only [maxLen]; omega) (by omega) hb7 ?_)
   intro v8 w8 ho8 hgr8 _
   have K8 : KeepX 48 w7 w8 := KeepX.grown HF7.out.own hgr8
   have HF8 := ι (show ∃ ps, FtsI w8 b v8 (fatK l d k ++ (fatR d x).take (j + 1)) ps by
    refine ⟨ps ++ [.slice none 0 0], ?_⟩
    rw [HJS.out, ← List.append_assoc, ← HFF.out, ← HPL.out, ← HLE.out]
    exact HF7.out.snoc K8 ⟨x.reel, y.id, [], lo⟩ rfl ho8)
   have M8 := ι (K8.mapS M7.out)
   have Y8 := ι (K8.heldT Y7.out (by decide))
   have P8 := ι (K8.own P7.out (by decide))
   have B8 := ι (show Below b w2 w8 from BR7.out.grown hgr8 hb7 (own_base HF7.out.own))
   clear ho8 hgr8 K8 HF7 M7 Y7 P7 B7 BR7 X7 ZC
   go_wp2_with fail
   go_roundw
   case rel => exact ⟨j + 1, _, rfl, by omega, by go_num, HF8, M8, Y8, P8, B8⟩
   case measure => simp [intOf]; omega
  obtain rfl : j = x.doc.evs.length := by omega
  have HFE := ι (show ∃ ps, FtsI wr b uu (fatK l d (k + 1)) ps by
   rw [HFS2.out]
   have h1 : (fatR d x).take x.doc.evs.length = fatR d x := by rw [List.take_of_length_le (Nat.le_of_eq (fatR_len d x))]
   rw [← h1]
   exact HFT.out)
  clear hjt
  go_wp2_with fail
  go_roundw
  case rel => exact ⟨k + 1, _, rfl, by omega, by go_num, HFE, MR, BR⟩
  case measure => simp [intOf]; omega
 obtain rfl : k = l.length := by omega
 clear hlt
 have FR := ι (F2.out.below BR.out (by omega))
 have RR := ι (R2.out.below BR.out hG0)
 have fq := FR.out.held.cell
 have hGr := FR.out.lt
 unfold Lst.cs at fq
 obtain ⟨lg, hlg⟩ : ∃ lg, lg = langL [] 0 l := ⟨_, rfl⟩
 have HLG := ι (show ∀ W, Below w.heap.size w W → Calls Tryz.prog 27 #[.slice A1 l.length cp1] W fun e w' => e = .returned (.string (sB lg)) ∧ Below W.heap.size W w' from fun W hb => by rw [hlg]; exact lang_any _ l W (SeqAt.ext HL.out RdC.stays hb) (by omega))
 obtain ⟨nR, hnR⟩ : ∃ n, n = (regsL l).length := ⟨_, rfl⟩
 have HRG := ι (show ∀ W, Below w.heap.size w W → b ≤ W.heap.size → Calls Tryz.prog 28 #[.slice A1 l.length cp1] W fun e w' => (∃ v', e = .returned v' ∧ ∃ A c, v' = .slice A nR c ∧ RgP l b (.slice A nR c) w') ∧ Below W.heap.size W w' from fun W hb hbW => by
  refine (regions_any _ l W (SeqAt.ext HL.out RdC.stays hb) hl16 (fun x hx => ?_)).mono ?_
  ·obtain ⟨j, hj⟩ := List.getElem?_of_mem hx
   exact dcE_regs (HOK.out.docs j x hj).2.2.1
  rintro e w' ⟨⟨v', ys, rfl, hp, hs, ho⟩, hb'⟩
  obtain ⟨A9, c9, e9, _⟩ := row_of_ownK ho
  have e10 : ys.length = nR := by rw [hnR]; exact hp.length_eq
  rw [e10] at e9
  exact ⟨⟨v', rfl, A9, c9, e9, ys, hp, hs, e9 ▸ ownsRow_mono ho hbW⟩, hb'⟩)
 have HLE := ι hlg
 have HRE := ι hnR
 obtain ⟨fA, fc, rfl⟩ : ∃ fA fc, uv = .slice fA (fatK l d l.length).length fc := by
  obtain ⟨ps, hf⟩ := HFT.out
  obtain ⟨A, c, e, _⟩ := row_of_ownK hf.own
  exact ⟨A, c, e⟩
 have hf0 : (fatK l d l.length).length ≤ 6400 := Nat.le_trans (fatK_len (d := d) HEV.out l.length) (by omega)
 rw [fatK_all] at HFT hf0 ⊢
 obtain ⟨nF, hnF⟩ : ∃ n, n = (fat0 l d).length := ⟨_, rfl⟩
 rw [← hnF] at hf0 HFT ⊢
 have HNF := ι hnF
 clear hlg hnR hnF
 go_wp2_with fail
 obtain ⟨N, hN⟩ : ∃ N, N = wr.heap.size := ⟨_, rfl⟩
 have HN := ι hN
 have hGN : G < N := by omega
 have hbN : b ≤ N := by omega
 have HSZ := ι (show ∀ w', Below N wr w' → N ≤ w'.heap.size from fun w' h => by have := h.size; omega)
 have HBW := ι (show ∀ w', Below N wr w' → Below w.heap.size w w' from fun w' h => BW.out.trans (h.mono (by have := HWb.out; omega)))
 clear hN
 have e0 : wr.cell? ⟨G, 0, none⟩ = some (.string (sB d.title)) := FR.out.held.cell 0
 have e1 : wr.cell? ⟨G, 1, none⟩ = some (.int .u8 d.rate) := FR.out.held.cell 1
 have e2 : wr.cell? ⟨G, 2, none⟩ = some (.bool d.drop) := FR.out.held.cell 2
 refine wp_region_spec_tail 12 (by kernel_rfl) (fun w' => Below N wr w') (PhiCg G N b nR l.length cp1 A1 l d lg) 191 rfl (by kernel_rfl) (by kernel_rfl) (by kernel_rfl) (by kernel_rfl) (by kernel_rfl) (Below.refl _ _).drew ?hops ?hend
 case hops =>
  refine ⟨?o0, ?o1, ?o2, ?o3, ?o4, ?o5, ?o6, ?o7, ?o8, ?o9, ?o10, ?o11, trivial⟩
  case o0 =>
   intro ev w8 hI δ φ
   have a4 : ev 4 = .pointer (some ⟨G, 0, none⟩) := φ 4 (by kernel_rfl)
   clear δ φ
   try dsimp only
   simp [OpRuns, execOp, evalOf, a4, go_sem]
   exact ⟨hI, rfl, ν rfl, ν rfl, ν rfl⟩
  case o1 =>
   intro ev w8 hI δ φ
   have a80 : ev 80 = .pointer (some ⟨G, 0, none⟩) := (δ 0 80 (by kernel_rfl) rfl).1
   have y0 : w8.cell? ⟨G, 0, none⟩ = some (.string (sB d.title)) := (hI.cell (p := ⟨G, 0, none⟩) hGN).trans e0
   clear δ φ
   try dsimp only
   simp [OpRuns, execOp, evalOf, a80, y0, go_sem]
   exact ⟨hI, rfl, ν rfl, ν rfl, ν rfl⟩
  case o2 =>
   intro ev w8 hI δ φ
   have a0 : ev 0 = .slice A1 l.length cp1 := φ 0 (by kernel_rfl)
   clear δ φ
   try dsimp only
   simp [OpRuns, execOp, evalOf, a0, go_sem]
   exact ⟨hI, rfl, ν rfl, ν rfl, ν rfl⟩
  case o3 =>
   intro ev w8 hI δ φ
   have a82 : ev 82 = .slice A1 l.length cp1 := (δ 2 82 (by kernel_rfl) rfl).1
   clear δ φ
   try dsimp only
   refine runs_call (f := 27) (args := #[.slice A1 l.length cp1]) (by simp [execOp, evalOf, resolve, invoke, a82, go_sem]) ((HLG.out w8 (HBW.out w8 hI)).mono ?_)
   rintro e w9 ⟨he, hb⟩
   exact ⟨_, he, hI.trans (hb.mono (HSZ.out w8 hI)), PhiCg.ext G N b nR l.length cp1 A1 l d lg hb, fun d hd => by cases hd; exact ⟨rfl, ν rfl, ν rfl, ν rfl⟩⟩
  case o4 =>
   intro ev w8 hI δ φ
   have a4 : ev 4 = .pointer (some ⟨G, 0, none⟩) := φ 4 (by kernel_rfl)
   clear δ φ
   try dsimp only
   simp [OpRuns, execOp, evalOf, a4, go_sem]
   exact ⟨hI, rfl, ν rfl, ν rfl, ν rfl⟩
  case o5 =>
   intro ev w8 hI δ φ
   have a84 : ev 84 = .pointer (some ⟨G, 1, none⟩) := (δ 4 84 (by kernel_rfl) rfl).1
   have y0 : w8.cell? ⟨G, 1, none⟩ = some (.int .u8 d.rate) := (hI.cell (p := ⟨G, 1, none⟩) hGN).trans e1
   clear δ φ
   try dsimp only
   simp [OpRuns, execOp, evalOf, a84, y0, go_sem]
   exact ⟨hI, rfl, ν rfl, ν rfl, ν rfl⟩
  case o6 =>
   intro ev w8 hI δ φ
   have a4 : ev 4 = .pointer (some ⟨G, 0, none⟩) := φ 4 (by kernel_rfl)
   clear δ φ
   try dsimp only
   simp [OpRuns, execOp, evalOf, a4, go_sem]
   exact ⟨hI, rfl, ν rfl, ν rfl, ν rfl⟩
  case o7 =>
   intro ev w8 hI δ φ
   have a86 : ev 86 = .pointer (some ⟨G, 2, none⟩) := (δ 6 86 (by kernel_rfl) rfl).1
   have y0 : w8.cell? ⟨G, 2, none⟩ = some (.bool d.drop) := (hI.cell (p := ⟨G, 2, none⟩) hGN).trans e2
   clear δ φ
   try dsimp only
   simp [OpRuns, execOp, evalOf, a86, y0, go_sem]
   exact ⟨hI, rfl, ν rfl, ν rfl, ν rfl⟩
  case o8 =>
   intro ev w8 hI δ φ
   have a0 : ev 0 = .slice A1 l.length cp1 := φ 0 (by kernel_rfl)
   clear δ φ
   try dsimp only
   simp [OpRuns, execOp, evalOf, a0, go_sem]
   exact ⟨hI, rfl, ν rfl, ν rfl, ν rfl⟩
  case o9 =>
   intro ev w8 hI δ φ
   have a88 : ev 88 = .slice A1 l.length cp1 := (δ 8 88 (by kernel_rfl) rfl).1
   clear δ φ
   try dsimp only
   refine runs_call (f := 28) (args := #[.slice A1 l.length cp1]) (by simp [execOp, evalOf, resolve, invoke, a88, go_sem]) ((HRG.out w8 (HBW.out w8 hI) (Nat.le_trans hbN (HSZ.out w8 hI))).mono ?_)
   rintro e w9 ⟨⟨v, he, hrow⟩, hb⟩
   exact ⟨_, he, hI.trans (hb.mono (HSZ.out w8 hI)), PhiCg.ext G N b nR l.length cp1 A1 l d lg hb, fun d hd => by cases hd; exact ⟨trivial, ν rfl, fun e => hrow, ν rfl⟩⟩
  case o10 =>
   intro ev w8 hI δ φ
   have a81 : ev 81 = .string (sB d.title) := (δ 1 81 (by kernel_rfl) rfl).1
   have a83 : ev 83 = .string (sB lg) := (δ 3 83 (by kernel_rfl) rfl).1
   have a85 : ev 85 = .int .u8 d.rate := (δ 5 85 (by kernel_rfl) rfl).1
   have a87 : ev 87 = .bool d.drop := (δ 7 87 (by kernel_rfl) rfl).1
   obtain ⟨R89, r89, a89, hr89⟩ := (δ 9 89 (by kernel_rfl) rfl).2.2.1 rfl
   clear δ φ
   try dsimp only
   simp [OpRuns, execOp, evalOf, a81, a83, a85, a87, a89, go_sem]
   exact ⟨hI, trivial, ν rfl, ν rfl, fun e => ⟨_, _, rfl, hr89⟩⟩
  case o11 =>
  intro ev w8 hI δ φ
  clear δ φ
  try dsimp only
  simp [OpRuns, execOp, evalOf, go_sem]
  exact ⟨hI.alloc (HSZ.out w8 hI) _, PhiCg.ext G N b nR l.length cp1 A1 l d lg (Below.more' _ _), trivial, fun e => ⟨_, rfl, HSZ.out w8 hI, HeldT.new rfl⟩, ν rfl, ν rfl⟩
 case hend =>
 intro a w6 hdf hsz hI hPhi κ
 replace hdf : a.defers = [] := hdf
 replace hsz : a.tmps.size = 191 := hsz
 obtain ⟨h18, x18, hE18, hr18⟩ := (hPhi 11 18 (by omega) (by kernel_rfl)).2.1 rfl
 obtain ⟨R90, r90, x90, hr90⟩ := (hPhi 10 90 (by omega) (by kernel_rfl)).2.2.2 rfl
 have x0 := κO κ 0 (Value.slice A1 l.length cp1) rfl rfl
 have x1 := κO κ 1 (Value.agg #[Value.string (sB d.title), Value.int IntKind.u8 d.rate, Value.bool d.drop, Value.slice A d.cuts.length cp]) rfl rfl
 have x2 := κO κ 2 (Value.int IntKind.i64 least) rfl rfl
 have x3 := κO κ 3 (undef) rfl rfl
 have x4 := κO κ 4 (Value.pointer (some { block := G, off := 0 })) rfl rfl
 have x5 := κO κ 5 (undef) rfl rfl
 have x6 := κO κ 6 (Value.pointer (some { block := G + 1, off := 0 })) rfl rfl
 have x7 := κO κ 7 (Value.slice none 0 0) rfl rfl
 have x8 := κO κ 8 (Value.int IntKind.i64 0) rfl rfl
 have x9 := κO κ 9 (Value.int IntKind.i64 0) rfl rfl
 have x10 := κO κ 10 (Value.slice fA nF fc) rfl rfl
 have x11 := κO κ 11 (Value.map (some b)) rfl rfl
 have x12 := κO κ 12 (undef) rfl rfl
 have x13 := κO κ 13 (u13) rfl rfl
 have x14 := κO κ 14 (u14) rfl rfl
 have x15 := κO κ 15 (u15) rfl rfl
 have x16 := κO κ 16 (undef) rfl rfl
 have x17 := κO κ 17 (u17) rfl rfl
 have x19 := κO κ 19 (undef) rfl rfl
 have x20 := κO κ 20 (undef) rfl rfl
 have x21 := κO κ 21 (undef) rfl rfl
 have x22 := κO κ 22 (undef) rfl rfl
 have x23 := κO κ 23 (undef) rfl rfl
 have x24 := κO κ 24 (undef) rfl rfl
 have x25 := κO κ 25 (undef) rfl rfl
 have x26 := κO κ 26 (undef) rfl rfl
 have x27 := κO κ 27 (undef) rfl rfl
 have x28 := κO κ 28 (undef) rfl rfl
 have x29 := κO κ 29 (Value.slice A1 l.length cp1) rfl rfl
 have x30 := κO κ 30 (Value.agg #[Value.string (sB d.title), Value.int IntKind.u8 d.rate, Value.bool d.drop, Value.slice A d.cuts.length cp]) rfl rfl
 have x31 := κO κ 31 (Value.int IntKind.i64 0) rfl rfl
 have x32 := κO κ 32 (Value.int IntKind.i64 0) rfl rfl
 have x33 := κO κ 33 (Value.bool false) rfl rfl
 have x34 := κO κ 34 (undef) rfl rfl
 have x35 := κO κ 35 (undef) rfl rfl
 have x36 := κO κ 36 (Value.int IntKind.i64 least) rfl rfl
 have x37 := κO κ 37 (Value.bool (decide (least < 0))) rfl rfl
 have x38 := κO κ 38 (undef) rfl rfl
 have x39 := κO κ 39 (Value.map (some b)) rfl rfl
 have x40 := κO κ 40 (Value.slice A1 l.length cp1) rfl rfl
 have x41 := κO κ 41 (Value.int IntKind.i64 (↑l.length : Int)) rfl rfl
 have x42 := κO κ 42 (Value.int IntKind.i64 (↑l.length : Int)) rfl rfl
 have x43 := κO κ 43 (Value.bool false) rfl rfl
 have x44 := κO κ 44 (u44) rfl rfl
 have x45 := κO κ 45 (u45) rfl rfl
 have x46 := κO κ 46 (u46) rfl rfl
 have x47 := κO κ 47 (u47) rfl rfl
 have x48 := κO κ 48 (u48) rfl rfl
 have x49 := κO κ 49 (u49) rfl rfl
 have x50 := κO κ 50 (u50) rfl rfl
 have x51 := κO κ 51 (u51) rfl rfl
 have x52 := κO κ 52 (u52) rfl rfl
 have x53 := κO κ 53 (u53) rfl rfl
 have x54 := κO κ 54 (u54) rfl rfl
 have x55 := κO κ 55 (u55) rfl rfl
 have x56 := κO κ 56 (u56) rfl rfl
 have x57 := κO κ 57 (u57) rfl rfl
 have x58 := κO κ 58 (u58) rfl rfl
 have x59 := κO κ 59 (u59) rfl rfl
 have x60 := κO κ 60 (u60) rfl rfl
 have x61 := κO κ 61 (u61) rfl rfl
 have x62 := κO κ 62 (u62) rfl rfl
 have x63 := κO κ 63 (u63) rfl rfl
 have x64 := κO κ 64 (u64) rfl rfl
 have x65 := κO κ 65 (u65) rfl rfl
 have x66 := κO κ 66 (u66) rfl rfl
 have x67 := κO κ 67 (u67) rfl rfl
 have x68 := κO κ 68 (u68) rfl rfl
 have x69 := κO κ 69 (u69) rfl rfl
 have x70 := κO κ 70 (u70) rfl rfl
 have x71 := κO κ 71 (u71) rfl rfl
 have x72 := κO κ 72 (u72) rfl rfl
 have x73 := κO κ 73 (u73) rfl rfl
 have x74 := κO κ 74 (u74) rfl rfl
 have x75 := κO κ 75 (u75) rfl rfl
 have x76 := κO κ 76 (u76) rfl rfl
 have x77 := κO κ 77 (u77) rfl rfl
 have x78 := κO κ 78 (u78) rfl rfl
 have x79 := κO κ 79 (u79) rfl rfl
 have x91 := κO κ 91 (undef) rfl rfl
 have x92 := κO κ 92 (undef) rfl rfl
 have x93 := κO κ 93 (undef) rfl rfl
 have x94 := κO κ 94 (undef) rfl rfl
 have x95 := κO κ 95 (undef) rfl rfl
 have x96 := κO κ 96 (undef) rfl rfl
 have x97 := κO κ 97 (undef) rfl rfl
 have x98 := κO κ 98 (undef) rfl rfl
 have x99 := κO κ 99 (undef) rfl rfl
 have x100 := κO κ 100 (undef) rfl rfl
 have x101 := κO κ 101 (undef) rfl rfl
 have x102 := κO κ 102 (undef) rfl rfl
 have x103 := κO κ 103 (undef) rfl rfl
 have x104 := κO κ 104 (undef) rfl rfl
 have x105 := κO κ 105 (undef) rfl rfl
 have x106 := κO κ 106 (undef) rfl rfl
 have x107 := κO κ 107 (undef) rfl rfl
 have x108 := κO κ 108 (undef) rfl rfl
 have x109 := κO κ 109 (undef) rfl rfl
 have x110 := κO κ 110 (undef) rfl rfl
 have x111 := κO κ 111 (undef) rfl rfl
 have x112 := κO κ 112 (undef) rfl rfl
 have x113 := κO κ 113 (undef) rfl rfl
 have x114 := κO κ 114 (undef) rfl rfl
 have x115 := κO κ 115 (undef) rfl rfl
 have x116 := κO κ 116 (undef) rfl rfl
 have x117 := κO κ 117 (undef) rfl rfl
 have x118 := κO κ 118 (undef) rfl rfl
 have x119 := κO κ 119 (undef) rfl rfl
 have x120 := κO κ 120 (undef) rfl rfl
 have x121 := κO κ 121 (undef) rfl rfl
 have x122 := κO κ 122 (undef) rfl rfl
 have x123 := κO κ 123 (undef) rfl rfl
 have x124 := κO κ 124 (undef) rfl rfl
 have x125 := κO κ 125 (undef) rfl rfl
 have x126 := κO κ 126 (undef) rfl rfl
 have x127 := κO κ 127 (undef) rfl rfl
 have x128 := κO κ 128 (undef) rfl rfl
 have x129 := κO κ 129 (undef) rfl rfl
 have x130 := κO κ 130 (undef) rfl rfl
 have x131 := κO κ 131 (undef) rfl rfl
 have x132 := κO κ 132 (undef) rfl rfl
 have x133 := κO κ 133 (undef) rfl rfl
 have x134 := κO κ 134 (undef) rfl rfl
 have x135 := κO κ 135 (undef) rfl rfl
 have x136 := κO κ 136 (undef) rfl rfl
 have x137 := κO κ 137 (undef) rfl rfl
 have x138 := κO κ 138 (undef) rfl rfl
 have x139 := κO κ 139 (undef) rfl rfl
 have x140 := κO κ 140 (undef) rfl rfl
 have x141 := κO κ 141 (undef) rfl rfl
 have x142 := κO κ 142 (undef) rfl rfl
 have x143 := κO κ 143 (undef) rfl rfl
 have x144 := κO κ 144 (undef) rfl rfl
 have x145 := κO κ 145 (undef) rfl rfl
 have x146 := κO κ 146 (undef) rfl rfl
 have x147 := κO κ 147 (undef) rfl rfl
 have x148 := κO κ 148 (undef) rfl rfl
 have x149 := κO κ 149 (undef) rfl rfl
 have x150 := κO κ 150 (undef) rfl rfl
 have x151 := κO κ 151 (undef) rfl rfl
 have x152 := κO κ 152 (undef) rfl rfl
 have x153 := κO κ 153 (undef) rfl rfl
 have x154 := κO κ 154 (undef) rfl rfl
 have x155 := κO κ 155 (undef) rfl rfl
 have x156 := κO κ 156 (undef) rfl rfl
 have x157 := κO κ 157 (undef) rfl rfl
 have x158 := κO κ 158 (undef) rfl rfl
 have x159 := κO κ 159 (undef) rfl rfl
 have x160 := κO κ 160 (undef) rfl rfl
 have x161 := κO κ 161 (undef) rfl rfl
 have x162 := κO κ 162 (undef) rfl rfl
 have x163 := κO κ 163 (undef) rfl rfl
 have x164 := κO κ 164 (undef) rfl rfl
 have x165 := κO κ 165 (undef) rfl rfl
 have x166 := κO κ 166 (undef) rfl rfl
 have x167 := κO κ 167 (undef) rfl rfl
 have x168 := κO κ 168 (undef) rfl rfl
 have x169 := κO κ 169 (undef) rfl rfl
 have x170 := κO κ 170 (undef) rfl rfl
 have x171 := κO κ 171 (undef) rfl rfl
 have x172 := κO κ 172 (undef) rfl rfl
 have x173 := κO κ 173 (undef) rfl rfl
 have x174 := κO κ 174 (undef) rfl rfl
 have x175 := κO κ 175 (undef) rfl rfl
 have x176 := κO κ 176 (undef) rfl rfl
 have x177 := κO κ 177 (undef) rfl rfl
 have x178 := κO κ 178 (undef) rfl rfl
 have x179 := κO κ 179 (undef) rfl rfl
 have x180 := κO κ 180 (undef) rfl rfl
 have x181 := κO κ 181 (undef) rfl rfl
 have x182 := κO κ 182 (undef) rfl rfl
 have x183 := κO κ 183 (undef) rfl rfl
 have x184 := κO κ 184 (undef) rfl rfl
 have x185 := κO κ 185 (undef) rfl rfl
 have x186 := κO κ 186 (undef) rfl rfl
 have x187 := κO κ 187 (undef) rfl rfl
 have x188 := κO κ 188 (undef) rfl rfl
 have x189 := κO κ 189 (undef) rfl rfl
 have x190 := κO κ 190 (undef) rfl rfl
 have ea := act_lit hsz hdf
 simp only [getDs] at ea
 rw [x18, x90, x0, x1, x2, x3, x4, x5, x6, x7, x8, x9, x10, x11, x12, x13, x14, x15, x16, x17, x19, x20, x21, x22, x23, x24, x25, x26, x27, x28, x29, x30, x31, x32, x33, x34, x35, x36, x37, x38, x39, x40, x41, x42, x43, x44, x45, x46, x47, x48, x49, x50, x51, x52, x53, x54, x55, x56, x57, x58, x59, x60, x61, x62, x63, x64, x65, x66, x67, x68, x69, x70, x71, x72, x73, x74, x75, x76, x77, x78, x79, x91, x92, x93, x94, x95, x96, x97, x98, x99, x100, x101, x102, x103, x104, x105, x106, x107, x108, x109, x110, x111, x112, x113, x114, x115, x116, x117, x118, x119, x120, x121, x122, x123, x124, x125, x126, x127, x128, x129, x130, x131, x132, x133, x134, x135, x136, x137, x138, x139, x140, x141, x142, x143, x144, x145, x146, x147, x148, x149, x150, x151, x152, x153, x154, x155, x156, x157, x158, x159, x160, x161, x162, x163, x164, x165, x166, x167, x168, x169, x170, x171, x172, x173, x174, x175, x176, x177, x178, x179, x180, x181, x182, x183, x184, x185, x186, x187, x188, x189, x190] at ea
 rw [ea]
 clear ea x18 x90 x0 x1 x2 x3 x4 x5 x6 x7 x8 x9 x10 x11 x12 x13 x14 x15 x16 x17 x19 x20 x21 x22 x23 x24 x25 x26 x27 x28 x29 x30 x31 x32 x33 x34 x35 x36 x37 x38 x39 x40 x41 x42 x43 x44 x45 x46 x47 x48 x49 x50 x51 x52 x53 x54 x55 x56 x57 x58 x59 x60 x61 x62 x63 x64 x65 x66 x67 x68 x69 x70 x71 x72 x73 x74 x75 x76 x77 x78 x79 x91 x92 x93 x94 x95 x96 x97 x98 x99 x100 x101 x102 x103 x104 x105 x106 x107 x108 x109 x110 x111 x112 x113 x114 x115 x116 x117 x118 x119 x120 x121 x122 x123 x124 x125 x126 x127 x128 x129 x130 x131 x132 x133 x134 x135 x136 x137 x138 x139 x140 x141 x142 x143 x144 x145 x146 x147 x148 x149 x150 x151 x152 x153 x154 x155 x156 x157 x158 x159 x160 x161 x162 x163 x164 x165 x166 x167 x168 x169 x170 x171 x172 x173 x174 x175 x176 x177 x178 x179 x180 x181 x182 x183 x184 x185 x186 x187 x188 x189 x190 hPhi κ hdf hsz
 generalize a.tmps.getD 80 undef = u80, a.tmps.getD 81 undef = u81, a.tmps.getD 82 undef = u82, a.tmps.getD 83 undef = u83, a.tmps.getD 84 undef = u84, a.tmps.getD 85 undef = u85, a.tmps.getD 86 undef = u86, a.tmps.getD 87 undef = u87, a.tmps.getD 88 undef = u88, a.tmps.getD 89 undef = u89
 clear a
 have B6 := ι (show Below b w2 w6 from BR.out.trans (hI.mono hbN))
 have hIs := hI.mono (Nat.le_of_eq HN.out.symm)
 have O6 := ι hr18
 have RR6 := ι (RR.out.below hI (by omega))
 have F6 := ι (FR.out.below hI hGN)
 have M6 := ι (MR.out.ext hIs)
 have HF6 := ι (show ∃ ps, FtsI w6 b (.slice fA nF fc) (fat0 l d) ps by
  obtain ⟨ps, hf⟩ := HFT.out
  exact ⟨ps, hf.ext hIs⟩)
 have RG6 := ι hr90
 have hne1 : G ≠ h18 := by omega
 have hne2 : G + 1 ≠ h18 := by omega
 have hb18 : b < h18 := by have := MR.out.lt; have := HN.out; omega
 clear e0 e1 e2 hGN hbN HSZ HBW hI hIs hr18 hr90 FR RR HFT MR BR BW hE18 HLG HRG fq hGr hbr HN
 have fq := F6.out.held.cell
 have oq := O6.out.held.cell
 have oy := O6.out.held.free
 have hO6 := O6.out.lt
 have hG6 := F6.out.lt
 unfold Lst.cs at fq
 go_wp2_with fail
 clear fq oq oy
 generalize hw7 : World.setCell _ _ _ = w7
 have O7 := ι (show HeldT w7 h18 41 [.string (sB d.title), .string (sB lg), .int .u8 d.rate, .bool d.drop, .int .i64 0, .slice R90 nR r90, .slice none 0 0, .slice none 0 0] by subst hw7; exact O6.out.all [.string (sB d.title), .string (sB lg), .int .u8 d.rate, .bool d.drop, .int .i64 0, .slice R90 nR r90, .slice none 0 0, .slice none 0 0] rfl)
 have K7 : KeepX 41 w6 w7 := by
  subst hw7
  exact KeepX.puts [.string (sB d.title), .string (sB lg), .int .u8 d.rate, .bool d.drop, .int .i64 0, .slice R90 nR r90, .slice none 0 0, .slice none 0 0] 0 O6.out
 have RR7 := ι (show HeldT w7 (G + 1) 41 zdC by subst hw7; exact RR6.out.far hne2 [.string (sB d.title), .string (sB lg), .int .u8 d.rate, .bool d.drop, .int .i64 0, .slice R90 nR r90, .slice none 0 0, .slice none 0 0] 0)
 have F7 := ι (K7.heldT F6.out (by decide))
 have M7 := ι (K7.mapS M6.out)
 have HF7 := ι (show ∃ ps, FtsI w7 b (.slice fA nF fc) (fat0 l d) ps by
  obtain ⟨ps, hf⟩ := HF6.out
  exact ⟨ps, hf.keep K7 (by decide) (by decide)⟩)
 have RG7 := ι (show RgP l b (.slice R90 nR r90) w7 by
  obtain ⟨ys, h1, h2, h3⟩ := RG6.out
  exact ⟨ys, h1, h2, K7.own h3 (by decide)⟩)
 have B7 := ι (show Below b w2 w7 by subst hw7; exact Below.all (Nat.le_of_lt hb18) [.string (sB d.title), .string (sB lg), .int .u8 d.rate, .bool d.drop, .int .i64 0, .slice R90 nR r90, .slice none 0 0, .slice none 0 0] 0 B6.out)
 have BW7 := ι (show Below w.heap.size w w7 from B2.out.trans (B7.out.mono HWb.out))
 have hb7 : b ≤ w7.heap.size := by have := M7.out.lt; omega
 clear hw7 K7 O6 RR6 F6 M6 HF6 RG6 B6 hO6 hG6
 refine (join_any d _ w7 (SeqAt.ext HC.out (Flat.stays _) BW7.out) HO.out (HW.out.on BW7.out) HOK.out.lst).mono ?_
 rintro e' wj ⟨⟨jv, rfl, ho⟩, hb'⟩
 have hjl : (jnC d.cuts).length ≤ 64 := by have := jn_len d.cuts; have := (lst_ok HOK.out.lst).2; omega
 obtain ⟨nJ, hnJ⟩ : ∃ n, n = (jnC d.cuts).length := ⟨_, rfl⟩
 obtain ⟨JA, jc, e8⟩ : ∃ JA jc, jv = .slice JA nJ jc := by rw [hnJ]; exact ownc_form ho
 subst e8
 have O8 := ι (O7.out.ext hb')
 have B8 := ι (B7.out.trans (hb'.mono hb7))
 obtain ⟨ys, hyp, hys, hyo⟩ := RG7.out
 obtain ⟨ps, hf⟩ := HF7.out
 have HYP := ι hyp
 have HYS := ι hys
 have CS8 := ι (CS.start (G := G) O8.out (RR7.out.ext hb') (hf.ext hb') (M7.out.ext hb') (ownsRow_mono ho hb7) (own_ext hyo hb'))
 have hb8 : b ≤ wj.heap.size := by have := hb'.size; omega
 rw [← hnJ] at hjl
 have HNJ := ι hnJ
 have ev2 : ∀ v, d.v v = .agg #[.string (sB d.title), .int .u8 d.rate, .bool d.drop, v] := fun _ => rfl
 rw [ev2]
 clear ho hb' O7 RR7 F7 M7 HF7 RG7 B7 BW7 hb7 hyp hys hyo hf ev2 hnJ
 go_wp2_with fail
 generalize hw9 : World.alloc wj _ = w9
 have CS9 := ι (show OutI l d (mkP l d b h18 G lg (.slice R90 nR r90) ys (.slice fA nF fc) (.slice JA nJ jc)) 0 w9 by subst hw9; exact CS8.out.ext (Below.more' _ _))
 have B9 := ι (show Below b w2 w9 by subst hw9; exact B8.out.alloc hb8 _)
 clear hw9 CS8 B8 hb8 O8
 go_loopw [99] (fun i wr => ∃ k : Nat, k ≤ nJ ∧ i = .int .i64 k ∧ Hid (OutI l d (mkP l d b h18 G lg (.slice R90 nR r90) ys (.slice fA nF fc) (.slice JA nJ jc)) k wr) ∧ Hid (Below b w2 wr)) (fun i _ => nJ - (intOf i).toNat)
 case atStart => exact ⟨0, Nat.zero_le _, rfl, CS9, B9⟩
 case round =>
 obtain ⟨k, hk, rfl, HX, BR⟩ := hrel
 have BW := ι (show Below w.heap.size w wr from B2.out.trans (BR.out.mono HWb.out))
 have hbr : b < wr.heap.size := by obtain ⟨Q, ev, ps, _, _, h3⟩ := HX.out; exact h3.map.lt
 by_cases hlt : k < nJ
 ·have hlt2 : (k : Int) < (nJ : Int) := by omega
  obtain ⟨z, hz⟩ : ∃ z, (jnC d.cuts)[k]? = some z := ⟨_, List.getElem?_eq_getElem (by have := HNJ.out; omega)⟩
  have HZK := ι hz
  have HZO := ι (jn_ok (lst_ok HOK.out.lst).1.cut z (List.mem_of_getElem? hz))
  obtain ⟨gJ, rfl⟩ : ∃ gJ, JA = some ⟨gJ, 0, none⟩ := by
   obtain ⟨Q, ev, ps, _, _, h3⟩ := HX.out
   have h4 := h3.jct
   obtain ⟨m, hm⟩ : ∃ m, (jnC d.cuts).length = m + 1 := ⟨(jnC d.cuts).length - 1, by have := HNJ.out; omega⟩
   have h5 : wr.ownsRow b 33 7 (.slice JA nJ jc) (jnC d.cuts).length ((jnC d.cuts).flatMap Ct.cs) := h4
   rw [hm] at h5
   obtain ⟨g, cap, e⟩ := ownsRow_succ h5
   injection e with e1 _ _
   exact ⟨g, e1⟩
  have zz : ∀ j u, z.cs[j]? = some u → wr.cell? ⟨gJ, k * 7 + j, none⟩ = some u := fun j u hu => by
   obtain ⟨Q, ev, ps, _, _, h3⟩ := HX.out
   have h5 : wr.ownsRow b 33 7 (.slice (some ⟨gJ, 0, none⟩) nJ jc) (jnC d.cuts).length ((jnC d.cuts).flatMap Ct.cs) := h3.jct
   have hj : j < 7 := (List.getElem?_eq_some_iff.1 hu).1
   have := h5.cells (g := gJ) rfl (k * 7 + j) u (by rw [flat_get ct_len hz hj]; exact hu)
   rwa [Addr.add_lit, Nat.zero_add] at this
  have z0 := zz 0 _ rfl
  have z1 := zz 1 _ rfl
  have z2 := zz 2 _ rfl
  have z3 := zz 3 _ rfl
  have z4 := zz 4 _ rfl
  have z5 := zz 5 _ rfl
  have z6 := zz 6 _ rfl
  rw [Nat.add_zero] at z0
  have hgJ : gJ < wr.heap.size := World.block_lt_of_cell? wr _ z0
  clear hz zz
  go_wp2_with fail
  clear z0 z1 z2 z3 z4 z5 z6
  generalize hw3 : World.alloc wr _ = w3
  obtain ⟨X, hX⟩ : ∃ X, X = wr.heap.size := ⟨_, rfl⟩
  rw [← hX]
  have X3 := ι (show HeldT w3 X 33 z.cs by subst hw3; exact HeldT.new hX)
  have hOX : h18 < X := by
   obtain ⟨Q, ev, ps, _, _, h3⟩ := HX.out
   have h : h18 < wr.heap.size := h3.out.lt
   omega
  have B3' := ι (show Below wr.heap.size wr w3 by subst hw3; exact Below.more' _ _)
  have HX3 := ι (HX.out.ext B3'.out)
  have BR3 := ι (show Below b w2 w3 from BR.out.trans (B3'.out.mono (Nat.le_of_lt hbr)))
  have BW3 := ι (show Below w.heap.size w w3 from B2.out.trans (BR3.out.mono HWb.out))
  have hb3 : b ≤ w3.heap.size := by have := B3'.out.size; omega
  clear hw3 hX HX BR BW B3' hgJ hbr
  refine (cfi_any X _ l z.reel w3 (SeqAt.ext HL.out RdC.stays BW3.out) (X3.out.held.cell 1) (by omega)).mono ?_
  rintro e' w4 ⟨rfl, hb'⟩
  have X4 := ι (X3.out.ext hb')
  have HX4 := ι (HX3.out.ext hb')
  have BR4 := ι (BR3.out.trans (hb'.mono hb3))
  have hb4 : b ≤ w4.heap.size := by have := hb'.size; omega
  clear hb' X3 HX3 BR3 BW3 hb3
  rcases fnd_in (nm := z.reel) (l := l) (k := 0) with ⟨hf1, hf2⟩ | ⟨j0, xd, hf1, hf2, hf3⟩
  ·have HXN := ι (show OutI l d (mkP l d b h18 G lg (.slice R90 nR r90) ys (.slice fA nF fc) (.slice (some ⟨gJ, 0, none⟩) nJ jc)) (k + 1) w4 by
    obtain ⟨Q, ev, ps, h1, h2, h3⟩ := HX4.out
    refine ⟨Q, ev, ps, ?_, by omega, h3⟩
    rw [accJ_drop HZK.out, accC_neg (by rw [hf1]; decide)] at h1
    exact h1)
   rw [hf1]
   clear hf1 hf2 HX4
   go_wp2_with fail
   go_roundw
   case rel => exact ⟨k + 1, by omega, by go_num, HXN, BR4⟩
   case measure => simp [intOf]; omega
  rw [Nat.zero_add] at hf1
  rw [hf1]
  have HACC := ι (fun Q => accC_at (d := d) (c := z) (A := Q) hf1 hf2)
  have HX0 := ι hf2
  have BW4 := ι (show Below w.heap.size w w4 from B2.out.trans (BR4.out.mono HWb.out))
  have hn0 : ¬ (j0 : Int) < 0 := by omega
  have hj0 : (j0 : Int) < (l.length : Int) := by have := (List.getElem?_eq_some_iff.1 hf2).1; omega
  have hj0' : j0 < l.length := (List.getElem?_eq_some_iff.1 hf2).1
  have hev : xd.doc.evs.length ≤ 400 := HEV.out xd (List.mem_of_getElem? hf2)
  have HCL := ι (conf_cln HOK.out HDO.out xd (List.mem_of_getElem? hf2))
  have HRL := ι (show xd.reel = z.reel from hf3)
  obtain ⟨g, o, r, e, s, rfl, ⟨q0, q1, q2, q3, q4, q5, q6, q7, q8⟩, hd⟩ := RdsAt.get2 HL.out BW4.out hf2
  obtain ⟨rA, rc, rfl⟩ := hd.regs.form
  obtain ⟨eA, ec, rfl⟩ := hd.evs.form
  obtain ⟨sA, sc, rfl⟩ := hd.cms.form
  have HD := ι hd
  have hgr : g < w4.heap.size := World.block_lt_of_cell? w4 _ q0
  clear hf1 hf2 hf3 hd
  go_wp2_with fail
  clear q0 q1 q2 q3 q4 q5 q6 q7 q8
  refine (dclone_any xd.doc _ _ _ w4 (HD.out.ext BW4.out) HCL.out).mono ?_
  rintro e' w5 ⟨⟨rA9, r91, r92, cv, cA9, c91, c92, rfl, hcv⟩, hb'⟩
  obtain ⟨CA, cc, ecv, _⟩ := hcv.seq (by decide)
  subst ecv
  obtain ⟨S5, hS5⟩ : ∃ S, S = w4.heap.size := ⟨_, rfl⟩
  rw [← hS5] at hcv
  have HC5 := ι hcv
  have X5 := ι (X4.out.ext hb')
  have B5 := ι (BR4.out.trans (hb'.mono hb4))
  have hIN : ∃ Q1, accJ l d ((jnC d.cuts).drop (k + 1)) Q1 = rawP l d ∧ InI l d (mkP l d b h18 G lg (.slice R90 nR r90) ys (.slice fA nF fc) (.slice (some ⟨gJ, 0, none⟩) nJ jc)) z (staN l d j0) k xd.doc.evs Q1 (.slice CA xd.doc.evs.length cc) 0 w5 := by
   obtain ⟨Q, ev, ps, h1, h2, h3⟩ := HX4.out
   rw [accJ_drop HZK.out, HACC.out] at h1
   refine ⟨_, h1, Q, ev, ps, rfl, by omega, h3.ext hb', fun g hg e => ?_⟩
   obtain ⟨cl, _, ho⟩ := hcv
   have h4 := own_base ho g hg
   obtain ⟨cl2, _, ho2⟩ := h3.evs
   have h5 := (ho2.lt g e).2
   omega
  obtain ⟨Q1, hQ1, hin⟩ := hIN
  have HQ1 := ι hQ1
  have HN5 := ι hin
  have ev3 : xd.doc.v (.slice rA9 r91 r92) (.slice CA xd.doc.evs.length cc) (.slice cA9 c91 c92) = .agg #[.string (sB xd.doc.title), .string (sB xd.doc.lang), .int .u8 xd.doc.rate, .bool xd.doc.drop, .int .i64 xd.doc.last, .slice rA9 r91 r92, .slice CA xd.doc.evs.length cc, .slice cA9 c91 c92] := rfl
  rw [ev3]
  obtain ⟨nE, hnE⟩ : ∃ n, n = xd.doc.evs.length := ⟨_, rfl⟩
  rw [← hnE] at hev HC5 HN5 ⊢
  have HNE := ι hnE
  have hbS : b ≤ S5 := by omega
  clear hcv hin hQ1 hb' HX4 X4 BR4 hS5 ev3 hnE hb4 BW4 hgr HACC
  have hfr := field_run
  go_wp2_with fail
  clear hfr
  go_loopw [116] (fun i wq => ∃ j : Nat, j ≤ nE ∧ i = .int .i64 j ∧ Hid (InI l d (mkP l d b h18 G lg (.slice R90 nR r90) ys (.slice fA nF fc) (.slice (some ⟨gJ, 0, none⟩) nJ jc)) z (staN l d j0) k xd.doc.evs Q1 (.slice CA nE cc) j wq) ∧ Hid (HeldT wq X 33 z.cs) ∧ Hid (OwnS wq S5 55 7 EvT2 (.slice CA nE cc) xd.doc.evs) ∧ Hid (Below b w2 wq)) (fun i _ => nE - (intOf i).toNat)
  case atStart => exact ⟨0, Nat.zero_le _, rfl, HN5, X5, HC5, B5⟩
  case round =>
  obtain ⟨j, hj, rfl, HIN, XR, CR, BR⟩ := hrel
  have hXr : X < wr.heap.size := XR.out.lt
  have hbr : b < wr.heap.size := by obtain ⟨Q, ev, ps, _, _, h3, _⟩ := HIN.out; exact h3.map.lt
  by_cases hjt : j < nE
  ·have hjt2 : (j : Int) < (nE : Int) := by omega
   obtain ⟨y, hy⟩ : ∃ y, xd.doc.evs[j]? = some y := ⟨_, List.getElem?_eq_getElem (by have := HNE.out; omega)⟩
   have HYK := ι hy
   obtain ⟨cl, c1, c2⟩ := CR.out
   obtain ⟨c0, e1, e2, ⟨r, rfl, hr⟩, e4⟩ := Al2.get c1 hy
   obtain ⟨rA2, rc2, rfl⟩ := hr.r.form
   obtain ⟨gC, rfl⟩ : ∃ gC, CA = some ⟨gC, 0, none⟩ := by
    obtain ⟨m, hm⟩ : ∃ m, xd.doc.evs.length = m + 1 := ⟨xd.doc.evs.length - 1, by have := HNE.out; omega⟩
    have h5 := c2
    rw [hm] at h5
    obtain ⟨g, cap, e⟩ := ownsRow_succ h5
    injection e with e1 _ _
    exact ⟨g, e1⟩
   have pp : ∀ i u, (y.cs (.slice rA2 y.rows.length rc2))[i]? = some u → wr.cell? ⟨gC, j * 7 + i, none⟩ = some u := fun i u hu => by
    have hi : i < 7 := (List.getElem?_eq_some_iff.1 hu).1
    have := c2.cells (g := gC) rfl (j * 7 + i) u (by rw [e4 i hi]; exact hu)
    rwa [Addr.add_lit, Nat.zero_add] at this
   have p0 := pp 0 _ rfl
   have p1 := pp 1 _ rfl
   have p2 := pp 2 _ rfl
   have p3 := pp 3 _ rfl
   have p4 := pp 4 _ rfl
   have p5 := pp 5 _ rfl
   have p6 := pp 6 _ rfl
   rw [Nat.add_zero] at p0
   have hgC : gC < wr.heap.size := World.block_lt_of_cell? wr _ p0
   have RT := ι hr
   have xq := XR.out.held.cell
   unfold Ct.cs at xq
   obtain ⟨pr, hpr⟩ : ∃ pr, pr = partV z (evS y) := ⟨_, rfl⟩
   have HPR := ι hpr
   have HPT := ι (show ∀ W, Calls Tryz.prog 33 #[.agg #[.int .i64 z.num, .string (sB z.reel), .int .i64 z.src, .int .i64 z.i, .int .i64 z.o, .int .i64 z.sn, .int .i64 z.sd], .agg #[.int .i64 y.i, .int .i64 y.o]] W fun e w' => e = .returned (.tuple #[.agg #[.int .i64 pr.1.i, .int .i64 pr.1.o], .bool pr.2]) ∧ Below W.heap.size W w' from fun W => by rw [hpr]; exact part_any z (evS y) W HZO.out)
   clear hy c1 c2 e1 e2 e4 hr pp hpr
   go_wp2_with fail
   generalize hw6 : World.alloc wr _ = w6
   obtain ⟨Y, hY⟩ : ∃ Y, Y = wr.heap.size := ⟨_, rfl⟩
   rw [← hY]
   have Y6 := ι (show HeldT w6 Y 55 (y.cs (.slice rA2 y.rows.length rc2)) by subst hw6; exact HeldT.new hY)
   have B6 := ι (show Below wr.heap.size wr w6 by subst hw6; exact Below.more' _ _)
   have HYE := ι hY
   clear hw6 hY p0 p1 p2 p3 p4 p5 p6 xq
   refine (HPT.out w6).mono ?_
   rintro e' w7 ⟨rfl, hb'⟩
   have B7 := ι (B6.out.trans (hb'.mono B6.out.size))
   have Y7 := ι (Y6.out.ext hb')
   clear hb' Y6 B6 HPT
   obtain ⟨pv, ok⟩ := pr
   dsimp only
   cases ok with
   | false =>
    have HIN2 := ι (fun W (hb : Below w7.heap.size w7 W) => show InI l d (mkP l d b h18 G lg (.slice R90 nR r90) ys (.slice fA nF fc) (.slice (some ⟨gJ, 0, none⟩) nJ jc)) z (staN l d j0) k xd.doc.evs Q1 (.slice (some ⟨gC, 0, none⟩) nE cc) (j + 1) W by
     obtain ⟨Q, ev, ps, h1, h2, h3, h4⟩ := HIN.out
     rw [accL_drop HYK.out] at h1
     refine ⟨Q, ev, ps, ?_, by omega, h3.ext (B7.out.trans (hb.mono B7.out.size)), h4⟩
     rw [show accE z (staN l d j0 + j) Q y = Q by unfold accE; rw [← HPR.out]; rfl] at h1
     exact h1)
    go_wp2_with fail
    go_roundw
    case rel => exact ⟨j + 1, by omega, by go_num, ι (HIN2.out _ (Below.more' _ _)), ι ((XR.out.ext B7.out).ext (Below.more' _ _)), ι (evs_ext (evs_ext CR.out B7.out) (Below.more' _ _)), ι (BR.out.trans (((B7.out.trans ((Below.more' _ _).mono B7.out.size))).mono (Nat.le_of_lt hbr)))⟩
    case measure => simp [intOf]; omega
   | true =>
   obtain ⟨Q, ev, ps, i1, i2, i3, i4⟩ := HIN.out
   rw [accL_drop HYK.out, show accE z (staN l d j0 + j) Q y = Q ++ [(staN l d j0 + j, prtE z Q.length y)] by unfold accE; rw [← HPR.out, if_pos rfl]] at i1
   have HPE := ι (show prtE z Q.length y = ⟨(Q.length : Int) + 1, pv.i, pv.o, y.reg, y.kind, y.spk, y.rows⟩ by unfold prtE; rw [← HPR.out])
   obtain ⟨u1, u2⟩ := part_bd (c := z) (s := evS y) (by rw [← HPR.out])
   have u3 := part_pos (c := z) (s := evS y) (by rw [← HPR.out])
   rw [← HPR.out] at u1 u2 u3
   dsimp only at u1 u2 u3
   have hql : Q.length ≤ 26000 := by have : k * 400 ≤ 64 * 400 := Nat.mul_le_mul_right 400 (by omega); omega
   have HI1 := ι i1
   have HI4 := ι i4
   have hql2 : Q.length ≤ k * 400 + j := i2
   have CS7 := ι (i3.ext B7.out)
   obtain ⟨evA, evc, rfl⟩ : ∃ A c, ev = .slice A Q.length c := by
    obtain ⟨A, c, e, _⟩ := i3.evs.seq (by decide)
    rw [evsA_len] at e
    exact ⟨A, c, e⟩
   have XR7 := ι (XR.out.ext B7.out)
   have CR7 := ι (evs_ext CR.out B7.out)
   have RT7 := ι (RT.out.keep (KeepS.ext B7.out))
   have BR7 := ι (BR.out.trans (B7.out.mono (Nat.le_of_lt hbr)))
   have hevY : ∀ g, (Value.slice evA Q.length evc).ownBlock = some g → g < Y := fun g hg => by
    obtain ⟨cl2, _, ho2⟩ := i3.evs
    have := (ho2.lt g hg).2
    have := HYE.out
    omega
   have HEY := ι hevY
   have hO7 : h18 < w7.heap.size := CS7.out.out.lt
   have hOY : h18 < Y := by have h : h18 < wr.heap.size := i3.out.lt; have := HYE.out; omega
   have hb7 : b ≤ w7.heap.size := by have := CS7.out.map.lt; have h : b < w7.heap.size := this; omega
   have hXY : X < Y := by have := HYE.out; omega
   have hCY : gC < Y := by have := HYE.out; omega
   clear i1 i2 i3 i4 HIN XR CR RT BR HPR hevY hXr hgC
   have oq := CS7.out.out.held.cell
   have oy := CS7.out.out.held.free
   change ∀ i, w7.cell? ⟨h18, i, none⟩ = [Value.string (sB d.title), .string (sB lg), .int .u8 d.rate, .bool d.drop, .int .i64 (Q.length : Int), .slice R90 nR r90, .slice evA Q.length evc, .slice none 0 0][i]? at oq
   change ∀ i, w7.frozen? ⟨h18, i, none⟩ = false at oy
   have wq1 : IntKind.i64.wrap ((Q.length : Int) + 1) = (Q.length : Int) + 1 := by rw [IntKind.wrap_i64]; omega
   go_wp2_with fail
   clear oq oy
   have hne : (mkP l d b h18 G lg (.slice R90 nR r90) ys (.slice fA nF fc) (.slice (some ⟨gJ, 0, none⟩) nJ jc)).O ≠ (mkP l d b h18 G lg (.slice R90 nR r90) ys (.slice fA nF fc) (.slice (some ⟨gJ, 0, none⟩) nJ jc)).R6 := Ne.symm hne2
   have HNE2 := ι hne
   generalize hw8 : World.alloc (World.setCell w7 _ _) _ = w8
   obtain ⟨Z, hZ⟩ : ∃ Z, Z = w7.heap.size := ⟨_, rfl⟩
   rw [← hZ]
   have K8 : KeepX 41 w7 (w7.setCell ⟨h18, 4, none⟩ (.int .i64 ((Q.length : Int) + 1))) := KeepX.put CS7.out.out _ _
   have E8 : Below (w7.setCell ⟨h18, 4, none⟩ (.int .i64 ((Q.length : Int) + 1))).heap.size (w7.setCell ⟨h18, 4, none⟩ (.int .i64 ((Q.length : Int) + 1))) w8 := by subst hw8; exact Below.more' _ _
   have CS8 := ι (show CS (mkP l d b h18 G lg (.slice R90 nR r90) ys (.slice fA nF fc) (.slice (some ⟨gJ, 0, none⟩) nJ jc)) ((Q.length : Int) + 1) (.slice evA Q.length evc) (evsA Q) (fatA l d Q) ps w8 from (CS7.out.num hne _).ext E8)
   have Y8 := ι ((K8.heldT Y7.out (by decide)).ext E8)
   have X8 := ι ((K8.heldT XR7.out (by decide)).ext E8)
   have Z8 := ι (show HeldT w8 Z 29 [.int .i64 pv.i, .int .i64 pv.o] by subst hw8; exact HeldT.new (by rw [hZ]; simp))
   have C8 := ι (evs_ext (K8.evs CR7.out (by decide) (by unfold IsRow; decide)) E8)
   have RT8 := ι (RT7.out.keep ((K8.keepS (S := IsRow) (by unfold IsRow; decide)).trans (KeepS.ext E8)))
   have BR8 := ι (show Below b w2 w8 from (BR7.out.setCell (p := ⟨h18, 4, none⟩) (Nat.le_of_lt hb18) (.int .i64 ((Q.length : Int) + 1))).trans (E8.mono (by simpa using hb7)))
   have hYZ : Y < Z := by have := Y7.out.lt; omega
   have hsz8 : Z < w8.heap.size := Z8.out.lt
   clear hw8 hne hZ K8 E8 CS7 Y7 XR7 CR7 RT7 BR7 wq1 hO7 hb7 B7
   have oq := CS8.out.out.held.cell
   change ∀ i, w8.cell? ⟨h18, i, none⟩ = [Value.string (sB d.title), .string (sB lg), .int .u8 d.rate, .bool d.drop, .int .i64 ((Q.length : Int) + 1), .slice R90 nR r90, .slice evA Q.length evc, .slice none 0 0][i]? at oq
   have oq4 : w8.cell? ⟨h18, 4, none⟩ = some (.int .i64 ((Q.length : Int) + 1)) := oq 4
   have zq0 : w8.cell? ⟨Z, 0, none⟩ = some (.int .i64 pv.i) := Z8.out.held.cell 0
   have zq1 : w8.cell? ⟨Z, 1, none⟩ = some (.int .i64 pv.o) := Z8.out.held.cell 1
   have yq0 : w8.cell? ⟨Y, 0, none⟩ = some (.int .i64 y.id) := Y8.out.held.cell 0
   have yq1 : w8.cell? ⟨Y, 1, none⟩ = some (.int .i64 y.i) := Y8.out.held.cell 1
   have yq2 : w8.cell? ⟨Y, 2, none⟩ = some (.int .i64 y.o) := Y8.out.held.cell 2
   have yf0 : w8.frozen? ⟨Y, 0, none⟩ = false := Y8.out.held.free 0
   have yf1 : w8.frozen? ⟨Y, 1, none⟩ = false := Y8.out.held.free 1
   have yf2 : w8.frozen? ⟨Y, 2, none⟩ = false := Y8.out.held.free 2
   clear oq
   have hO8 : h18 < w8.heap.size := by omega
   have hY8 : Y < w8.heap.size := by omega
   have hn1 : h18 ≠ Y := by omega
   have hn2 : Z ≠ Y := by omega
   have hn3 : Y ≠ Z := by omega
   have hn4 : Y ≠ h18 := by omega
   go_region
   clear oq4 zq0 zq1 yq0 yq1 yq2 yf0 yf1 yf2
   generalize hw9 : World.drew _ = w9
   have Y9 := ι (show HeldT w9 Y 55 [.int .i64 ((Q.length : Int) + 1), .int .i64 pv.i, .int .i64 pv.o, .string (sB y.reg), .int .u8 y.kind, .string (sB y.spk), .slice rA2 y.rows.length rc2] by subst hw9; exact ((Y8.out.set 0 _).set 1 _).set 2 _)
   have CS9 := ι (show CS (mkP l d b h18 G lg (.slice R90 nR r90) ys (.slice fA nF fc) (.slice (some ⟨gJ, 0, none⟩) nJ jc)) ((Q.length : Int) + 1) (.slice evA Q.length evc) (evsA Q) (fatA l d Q) ps w9 by
    have hy : (Value.slice evA Q.length evc).ownBlock ≠ some Y := fun e => by have := HEY.out Y e; omega
    have c1 := ((CS8.out.box Y8.out hy 0 (.int .i64 ((Q.length : Int) + 1))).box (Y8.out.set 0 _) hy 1 (.int .i64 pv.i)).box ((Y8.out.set 0 _).set 1 _) hy 2 (.int .i64 pv.o)
    subst hw9
    exact c1.ext ((Below.refl _ _).drew))
   have K9 : KeepX 55 w8 w9 := by
    subst hw9
    exact ((KeepX.put Y8.out _ _).trans ((KeepX.put (Y8.out.set 0 _) _ _).trans (KeepX.put ((Y8.out.set 0 _).set 1 _) _ _))).trans (KeepX.ext ((Below.refl _ _).drew))
   have Z9 := ι (K9.heldT Z8.out (by decide))
   have X9 := ι (K9.heldT X8.out (by decide))
   have C9 := ι (show OwnS w9 S5 55 7 EvT2 (.slice (some ⟨gC, 0, none⟩) nE cc) xd.doc.evs by
    have hy : (Value.slice (some ⟨gC, 0, none⟩) nE cc).ownBlock ≠ some Y := fun e => by
     have e2 : some gC = some Y := e
     injection e2 with e3
     omega
    have c1 := evs_put (evs_put (evs_put C8.out Y8.out hy 0 (.int .i64 ((Q.length : Int) + 1))) (Y8.out.set 0 _) hy 1 (.int .i64 pv.i)) ((Y8.out.set 0 _).set 1 _) hy 2 (.int .i64 pv.o)
    subst hw9
    exact evs_ext c1 ((Below.refl _ _).drew))
   have RT9 := ι (show RowsT w9 (.slice rA2 y.rows.length rc2) y.rows from RT8.out.keep (K9.keepS (S := IsRow) (by unfold IsRow; decide)))
   have hbY : b ≤ Y := by omega
   have BR9 := ι (show Below b w2 w9 by subst hw9; exact (((BR8.out.setCell (p := ⟨Y, 0, none⟩) hbY (.int .i64 ((Q.length : Int) + 1))).setCell (p := ⟨Y, 1, none⟩) hbY (.int .i64 pv.i)).setCell (p := ⟨Y, 2, none⟩) hbY (.int .i64 pv.o)).drew)
   have hZ9 : Z < w9.heap.size := Z9.out.lt
   clear hw9 K9 Y8 CS8 Z8 X8 C8 RT8 BR8 hsz8 hO8 hY8
   obtain ⟨cl, a1, a2⟩ := CS9.out.evs
   have a2 : w9.ownsRow b 55 7 (.slice evA Q.length evc) Q.length cl.flatten := by rw [← evsA_len Q]; rw [evsA_len Q] at a2 ⊢; exact a2
   have HA1 := ι a1
   have HA2 := ι a2
   have oq6 : w9.cell? ⟨h18, 6, none⟩ = some (.slice evA Q.length evc) := CS9.out.out.held.cell 6
   have yq := Y9.out.held.cell
   have hO9 : h18 < w9.heap.size := by omega
   have hY9 : Y < w9.heap.size := by omega
   have hb9 : b ≤ w9.heap.size := by omega
   clear a1 a2
   simp only [Exit.inBlock, Exit.then]
   go_step
   go_wp2_with (at_builtin; go_loud (refine wpList_append_lies _ rfl _ _ 38 rfl b 55 i1 (.agg #[.int .i64 0, .int .i64 0, .int .i64 0, .string ⟨#[]⟩, .int .u8 0, .string ⟨#[]⟩, .slice none 0 0]) 7 88 Tryz.underlying38 HI1'.out.1 HI1'.out.2.1 HI1'.out.2.2.1 HI1'.out.2.2.2 rfl (by decide) _ Q.length cl.flatten rfl (HA2.out.alloc _) ⟨w9.heap.size, 0, none⟩ 1 1 [.int .i64 ((Q.length : Int) + 1), .int .i64 pv.i, .int .i64 pv.o, .string (sB y.reg), .int .u8 y.kind, .string (sB y.spk), .slice rA2 y.rows.length rc2] rfl rfl (CellsAt.all (by simp [CellsAt, go_sem])) (by simp [Value.oneCell']) (by omega) (by simp only [maxLen]; omega) (by omega) (by simp; omega) _ rfl ?_))
   intro gE capE w10 ho hgr hat hlt10
   clear yq oq6
   have E9 : Below w9.heap.size w9 (w9.alloc (.cells #[.int .i64 ((Q.length : Int) + 1), .int .i64 pv.i, .int .i64 pv.o, .string (sB y.reg), .int .u8 y.kind, .string (sB y.spk), .slice rA2 y.rows.length rc2] 55)) := Below.more' _ _
   have K10 : KeepX 55 w9 w10 := (KeepX.ext E9).trans (KeepX.grown (own_ext HA2.out E9) hgr)
   have hevG : ∀ g, (Value.slice (some ⟨gC, 0, none⟩) nE cc).ownBlock = some g → (Value.slice (some ⟨gE, 0, none⟩) (Q.length + 1) capE).ownBlock ≠ some g := fun g hg e => by
    have e1 : some gC = some g := hg
    have e2 : some gE = some g := e
    injection e1 with e1
    injection e2 with e2
    subst e1
    rcases hat with h | h
    ·exact HI4.out gC rfl (by rw [h, e2])
    have h3 : (w9.alloc (.cells #[.int .i64 ((Q.length : Int) + 1), .int .i64 pv.i, .int .i64 pv.o, .string (sB y.reg), .int .u8 y.kind, .string (sB y.spk), .slice rA2 y.rows.length rc2] 55)).heap.size = w9.heap.size + 1 := by simp
    have h4 : gE = w9.heap.size + 1 := by first | exact h | exact h.trans h3
    omega
   have HEG := ι hevG
   have CS11 := ι (show CS (mkP l d b h18 G lg (.slice R90 nR r90) ys (.slice fA nF fc) (.slice (some ⟨gJ, 0, none⟩) nJ jc)) ((Q.length : Int) + 1) (.slice (some ⟨gE, 0, none⟩) (Q.length + 1) capE) (evsA (Q ++ [(staN l d j0 + j, prtE z Q.length y)])) (fatA l d Q) ps (w10.setCell ⟨h18, 6, none⟩ (.slice (some ⟨gE, 0, none⟩) (Q.length + 1) capE)) by
    have h1 := (CS9.out.ext E9).addEv HNE2.out (v' := .slice (some ⟨gE, 0, none⟩) (Q.length + 1) capE) (HA1.out.mono (fun c x h => h.keep (KeepS.ext E9))) (prtE z Q.length y) (.slice rA2 y.rows.length rc2) (by rw [HPE.out]; exact RT9.out.keep (KeepS.ext E9)) (by rw [HPE.out, evsA_len]; exact ho) (by rw [evsA_len]; exact own_ext HA2.out E9) hgr
    have h2 : evsA (Q ++ [(staN l d j0 + j, prtE z Q.length y)]) = evsA Q ++ [prtE z Q.length y] := by unfold evsA; simp
    rw [h2]
    exact h1)
   have O10 : HeldT w10 h18 41 ((mkP l d b h18 G lg (.slice R90 nR r90) ys (.slice fA nF fc) (.slice (some ⟨gJ, 0, none⟩) nJ jc)).hdr ((Q.length : Int) + 1) (.slice evA Q.length evc)) := K10.heldT CS9.out.out (by decide)
   have K11 : KeepX 41 w10 (w10.setCell ⟨h18, 6, none⟩ (.slice (some ⟨gE, 0, none⟩) (Q.length + 1) capE)) := KeepX.put O10 _ _
   obtain ⟨w11, hw11⟩ : ∃ w11, w11 = w10.setCell ⟨h18, 6, none⟩ (.slice (some ⟨gE, 0, none⟩) (Q.length + 1) capE) := ⟨_, rfl⟩
   have hE11 : w10.heap.size = w11.heap.size := by rw [hw11]; simp [World.setCell]
   have Y10 : HeldT w10 Y 55 [.int .i64 ((Q.length : Int) + 1), .int .i64 pv.i, .int .i64 pv.o, .string (sB y.reg), .int .u8 y.kind, .string (sB y.spk), .slice rA2 y.rows.length rc2] := by
    have h1 := Y9.out.ext E9
    unfold HeldT at h1 ⊢
    rw [← h1]
    refine hgr.block Y (by simp; omega) (fun e => ?_)
    have := HEY.out Y e.symm
    omega
   have Y11 := ι (show HeldT w11 Y 55 [.int .i64 ((Q.length : Int) + 1), .int .i64 pv.i, .int .i64 pv.o, .string (sB y.reg), .int .u8 y.kind, .string (sB y.spk), .slice rA2 y.rows.length rc2] by rw [hw11]; exact K11.heldT Y10 (by decide))
   have Z11 := ι (show HeldT w11 Z 29 [.int .i64 pv.i, .int .i64 pv.o] by rw [hw11]; exact K11.heldT (K10.heldT Z9.out (by decide)) (by decide))
   have X10 : HeldT w10 X 33 z.cs := K10.heldT X9.out (by decide)
   have X11 := ι (show HeldT w11 X 33 z.cs by rw [hw11]; exact K11.heldT X10 (by decide))
   have C11 := ι (show OwnS w11 S5 55 7 EvT2 (.slice (some ⟨gC, 0, none⟩) nE cc) xd.doc.evs by
    rw [hw11]
    refine K11.evs ?_ (by decide) (by unfold IsRow; decide)
    obtain ⟨cl2, d1, d2⟩ := evs_ext C9.out E9
    refine ⟨cl2, d1.mono (fun c x h => h.keep (KeepX.keepS (KeepX.grown (own_ext HA2.out E9) hgr) (by unfold IsRow; decide))), own_same d2 (fun g hg => hgr.block g (d2.lt g hg).2 (fun e => HI4.out g hg e.symm))⟩)
   have BR11 := ι (show Below b w2 w11 by
    rw [hw11]
    exact ((BR9.out.trans (E9.mono hb9)).grown hgr (by simp; omega) (own_base HA2.out)).setCell (p := ⟨h18, 6, none⟩) (Nat.le_of_lt hb18) _)
   have oq10 : w10.cell? ⟨h18, 6, none⟩ = some (.slice evA Q.length evc) := O10.held.cell 6
   have oy10 : w10.frozen? ⟨h18, 6, none⟩ = false := O10.held.free 6
   have xq10 : w10.cell? ⟨X, 1, none⟩ = some (.string (sB z.reel)) := X10.held.cell 1
   obtain ⟨S, hS⟩ : ∃ S, S = staN l d j0 := ⟨_, rfl⟩
   have hfm : fstM l d l.length z.reel = some (S : Int) := by
    rw [← HRL.out, hS]
    exact fstM_at (ord_dist HOK.out) l.length j0 xd (List.getElem?_eq_some_iff.1 HX0.out).1 HX0.out
   have hzl : (sB z.reel).size ≤ maxLen := by
    rw [sB_size, ← HRL.out]
    exact Nat.le_trans (nm_len (HOK.out.docs j0 xd HX0.out).1) (by unfold maxLen; omega)
   have hlk : (Instr.lookup 90 (.map (some b)) (.string (sB z.reel)) false).run Tryz.prog (w10.setCell ⟨h18, 6, none⟩ (.slice (some ⟨gE, 0, none⟩) (Q.length + 1) capE)) = .ok (.int .i64 (S : Int)) (w10.setCell ⟨h18, 6, none⟩ (.slice (some ⟨gE, 0, none⟩) (Q.length + 1) capE)) := by
    have h1 := CS11.out.map.look false hzl
    rw [sB_list] at h1
    have h2 : (mkP l d b h18 G lg (.slice R90 nR r90) ys (.slice fA nF fc) (.slice (some ⟨gJ, 0, none⟩) nJ jc)).M z.reel = some (S : Int) := hfm
    rw [h2] at h1
    exact h1
   have hf0 := sta_in (d := d) HX0.out HYK.out
   rw [← hS] at hf0
   obtain ⟨q, hq⟩ : ∃ q, q = S + j := ⟨_, rfl⟩
   rw [← hq] at hf0
   have hqF : q < nF := by rw [HNF.out]; exact (List.getElem?_eq_some_iff.1 hf0).1
   have hqi : (q : Int) < (nF : Int) := by omega
   have hw9 : IntKind.i64.wrap ((S : Int) + (j : Int)) = (q : Int) := by rw [IntKind.wrap_i64]; omega
   have HSE := ι hS
   have HQE := ι hq
   obtain ⟨fb, rfl⟩ : ∃ fb, fA = some ⟨fb, 0, none⟩ := by
    have h4 := CS11.out.fts.own
    have h5 : (w10.setCell ⟨h18, 6, none⟩ (.slice (some ⟨gE, 0, none⟩) (Q.length + 1) capE)).ownsRow b 48 5 (.slice fA nF fc) (fatA l d Q).length (ftC (fatA l d Q) ps) := h4
    obtain ⟨m, hm⟩ : ∃ m, (fatA l d Q).length = m + 1 := ⟨(fatA l d Q).length - 1, by rw [fatA_len]; have := HNF.out; omega⟩
    rw [hm] at h5
    obtain ⟨g, cap, e⟩ := ownsRow_succ h5
    injection e with e1 _ _
    exact ⟨g, e1⟩
   have hXne : X ≠ h18 := by omega
   have hXne2 : h18 ≠ X := by omega
   have hX10 : X < w10.heap.size := X10.held.lt
   have hO10 : h18 < w10.heap.size := by have := hgr.size; simp at this; omega
   have HW11 := ι hw11
   have hsz11 := hE11
   clear hS hq hf0 hfm hw11 ho hgr hat K10 K11 O10 Y10 X10 E9 CS9 Y9 Z9 X9 C9 RT9 BR9 hevG HA1 HA2 hE11
   go_wp2_with fail
   rw [← HW11.out] at CS11 ⊢
   clear oq10 oy10 xq10 hlk hX10 hO10 HW11
   obtain ⟨f, hf⟩ : ∃ f, (fatA l d Q)[q]? = some f := ⟨_, List.getElem?_eq_getElem (by rw [fatA_len]; have := HNF.out; omega)⟩
   obtain ⟨pp, hpp⟩ : ∃ p, ps[q]? = some p := ⟨_, List.getElem?_eq_getElem (by rw [CS11.out.fts.len]; exact (List.getElem?_eq_some_iff.1 hf).1)⟩
   have HPO := ι (show w11.ownsRow b 2 1 pp f.parts.length (f.parts.map (Value.int .i64)) from CS11.out.fts.parts q f pp hf hpp)
   obtain ⟨pA, pC, rfl⟩ : ∃ A c, pp = .slice A f.parts.length c := by
    obtain ⟨A, c, e, _⟩ := row_of_ownK HPO.out
    exact ⟨A, c, e⟩
   have hfp : f.parts.length ≤ 26000 := Nat.le_trans (fatA_parts l d Q q f hf) hql
   have HFQ := ι hf
   have HPQ := ι hpp
   have HFO := ι (show w11.ownsRow b 48 5 (.slice (some ⟨fb, 0, none⟩) nF fc) (fatA l d Q).length (ftC (fatA l d Q) ps) from CS11.out.fts.own)
   obtain ⟨nP, hnP⟩ : ∃ n, n = f.parts.length := ⟨_, rfl⟩
   rw [← hnP] at hfp HPO HPQ
   have HNP := ι hnP
   clear hf hpp hnP
   obtain ⟨N, hN⟩ : ∃ N, N = w11.heap.size := ⟨_, rfl⟩
   have HN := ι hN
   have d2 : w11.cell? ⟨fb, q * 5 + 2, none⟩ = some (.slice pA nP pC) := by
    have := HFO.out.cells (g := fb) rfl (q * 5 + 2) (.slice pA nP pC) (by rw [ftC_get HFQ.out HPQ.out 2 (by decide)]; rfl)
    rwa [Addr.add_lit, Nat.zero_add] at this
   have hfN : fb < N := by have h : fb < w11.heap.size := World.block_lt_of_cell? w11 _ d2; omega
   have hYN : Y < N := by have := Y11.out.lt; omega
   have HSZ := ι (show ∀ w', Below N w11 w' → N ≤ w'.heap.size from fun w' h => by have := h.size; omega)
   have hbN3 : b ≤ N := by have h : b < w11.heap.size := CS11.out.map.lt; omega
   clear hN
   have e0 : w11.cell? ⟨Y, 0, none⟩ = some (.int .i64 ((Q.length : Int) + 1)) := Y11.out.held.cell 0
   obtain ⟨xs, hxs⟩ : ∃ xs, xs = f.parts.map (Value.int .i64) ++ [Value.int .i64 ((Q.length : Int) + 1)] := ⟨_, rfl⟩
   have HXS := ι hxs
   refine wp_region_seen 9 (by kernel_rfl) (twoJ 8 (fun w' => Below N w11 w') (fun _ => True)) (PhiPt b fb q Y N nP pC Q.length pA w11 xs) 191 rfl (by kernel_rfl) (by kernel_rfl) (by kernel_rfl) (by kernel_rfl) (by kernel_rfl) (by unfold twoJ; rw [if_neg (by decide)]; exact (Below.refl _ _).drew) ?hops ?hend
   case hops =>
    refine ⟨?o0, ?o1, ?o2, ?o3, ?o4, ?o5, ?o6, ?o7, ?o8, trivial⟩
    case o0 =>
     refine OpOkJ.both rfl (by decide) ?_ ?_
     ·intro ev w8 hI δ φ
      have a28 : ev 28 = .pointer (some ⟨fb, q * 5, none⟩) := φ 28 (by kernel_rfl)
      clear δ φ
      try dsimp only
      simp [OpRuns, execOp, evalOf, a28, go_sem]
      first | exact ⟨hI, rfl, ν rfl, ν rfl⟩ | exact ⟨rfl, ν rfl, ν rfl⟩ | exact ⟨hI, rfl⟩ | exact hI
     intro ev w8 hI δ φ
     have a28 : ev 28 = .pointer (some ⟨fb, q * 5, none⟩) := φ 28 (by kernel_rfl)
     clear δ φ
     try dsimp only
     simp [OpRuns, execOp, evalOf, a28, go_sem]
     first | exact ⟨hI, rfl, ν rfl, ν rfl⟩ | exact ⟨rfl, ν rfl, ν rfl⟩ | exact ⟨hI, rfl⟩ | exact hI
    case o1 =>
     refine OpOkJ.early 8 rfl (by kernel_rfl) (by decide) ?_
     intro ev w8 hI δ φ
     have a28 : ev 28 = .pointer (some ⟨fb, q * 5, none⟩) := φ 28 (by kernel_rfl)
     clear δ φ
     try dsimp only
     simp [OpRuns, execOp, evalOf, a28, go_sem]
     first | exact ⟨hI, rfl, ν rfl, ν rfl⟩ | exact ⟨rfl, ν rfl, ν rfl⟩ | exact ⟨hI, rfl⟩ | exact hI
    case o2 =>
     refine OpOkJ.early 8 rfl (by kernel_rfl) (by decide) ?_
     intro ev w8 hI δ φ
     have a154 : ev 154 = .pointer (some ⟨fb, q * 5, none⟩) := (δ 1 154 (by kernel_rfl) rfl).1
     clear δ φ
     try dsimp only
     simp [OpRuns, execOp, evalOf, a154, go_sem]
     first | exact ⟨hI, rfl, ν rfl, ν rfl⟩ | exact ⟨rfl, ν rfl, ν rfl⟩ | exact ⟨hI, rfl⟩ | exact hI
    case o3 =>
     refine OpOkJ.early 8 rfl (by kernel_rfl) (by decide) ?_
     intro ev w8 hI δ φ
     have a155 : ev 155 = .pointer (some ⟨fb, q * 5, none⟩) := (δ 2 155 (by kernel_rfl) rfl).1
     clear δ φ
     try dsimp only
     simp [OpRuns, execOp, evalOf, a155, go_sem]
     first | exact ⟨hI, rfl, ν rfl, ν rfl⟩ | exact ⟨rfl, ν rfl, ν rfl⟩ | exact ⟨hI, rfl⟩ | exact hI
    case o4 =>
     refine OpOkJ.early 8 rfl (by kernel_rfl) (by decide) ?_
     intro ev w8 hI δ φ
     have a156 : ev 156 = .pointer (some ⟨fb, q * 5 + 2, none⟩) := (δ 3 156 (by kernel_rfl) rfl).1
     clear δ φ
     have y0 : w8.cell? ⟨fb, q * 5 + 2, none⟩ = some (.slice pA nP pC) := (hI.cell (p := ⟨fb, q * 5 + 2, none⟩) hfN).trans d2
     try dsimp only
     simp [OpRuns, execOp, evalOf, a156, y0, go_sem]
     first | exact ⟨hI, rfl, ν rfl, ν rfl⟩ | exact ⟨rfl, ν rfl, ν rfl⟩ | exact ⟨hI, rfl⟩ | exact hI
    case o5 =>
     refine OpOkJ.early 8 rfl (by kernel_rfl) (by decide) ?_
     intro ev w8 hI δ φ
     have a25 : ev 25 = .pointer (some ⟨Y, 0, none⟩) := φ 25 (by kernel_rfl)
     clear δ φ
     try dsimp only
     simp [OpRuns, execOp, evalOf, a25, go_sem]
     first | exact ⟨hI, rfl, ν rfl, ν rfl⟩ | exact ⟨rfl, ν rfl, ν rfl⟩ | exact ⟨hI, rfl⟩ | exact hI
    case o6 =>
     refine OpOkJ.early 8 rfl (by kernel_rfl) (by decide) ?_
     intro ev w8 hI δ φ
     have a158 : ev 158 = .pointer (some ⟨Y, 0, none⟩) := (δ 5 158 (by kernel_rfl) rfl).1
     clear δ φ
     have y0 : w8.cell? ⟨Y, 0, none⟩ = some (.int .i64 ((Q.length : Int) + 1)) := (hI.cell (p := ⟨Y, 0, none⟩) hYN).trans e0
     try dsimp only
     simp [OpRuns, execOp, evalOf, a158, y0, go_sem]
     first | exact ⟨hI, rfl, ν rfl, ν rfl⟩ | exact ⟨rfl, ν rfl, ν rfl⟩ | exact ⟨hI, rfl⟩ | exact hI
    case o7 =>
     refine OpOkJ.early 8 rfl (by kernel_rfl) (by decide) ?_
     intro ev w8 hI δ φ
     have a159 : ev 159 = .int .i64 ((Q.length : Int) + 1) := (δ 6 159 (by kernel_rfl) rfl).1
     clear δ φ
     try dsimp only
     simp [OpRuns, execOp, evalOf, a159, go_sem]
     exact ⟨hI.alloc (HSZ.out w8 hI) _, PhiPt.ext b fb q Y N nP pC Q.length pA w11 xs (Below.more' _ _), trivial, (fun _ => ⟨_, rfl, HSZ.out w8 hI, Held.new rfl⟩), ν rfl⟩
    case o8 =>
    refine OpOkJ.pivot rfl (of_decide_eq_true (by kernel_rfl)) ?_
    intro ev w8 hI δ φ
    have a157 : ev 157 = .slice pA nP pC := (δ 4 157 (by kernel_rfl) rfl).1
    obtain ⟨h, a160, hE, HH⟩ := (δ 7 160 (by kernel_rfl) rfl).2.1 rfl
    have hsz8 := HSZ.out w8 hI
    clear δ φ
    have PO8 := own_ext HPO.out (hI.mono (Nat.le_of_eq HN.out.symm))
    obtain ⟨th, hth⟩ := HH
    have hhl : h < w8.heap.size := (Array.getElem?_eq_some_iff.1 hth).1
    have hbN : b ≤ w8.heap.size := Nat.le_trans hbN3 hsz8
    obtain ⟨gg, cap, w9, hr, hown, hgrow, hat, hlt⟩ := run_append_lies (P := Tryz.prog) w8 46 46 b 2 i2 _ 1 8 Tryz.underlying46 HI2.out.1 HI2.out.2.1 HI2.out.2.2.1 HI2.out.2.2.2 rfl (by omega) (.slice pA nP pC) nP (f.parts.map (Value.int .i64)) PO8 ⟨h, 0, none⟩ 1 1 [.int .i64 ((Q.length : Int) + 1)] rfl (World.news_of_block hth) (by simp [Value.oneCell']) (by omega) (by simp only [maxLen]; omega) (by omega) hbN _ rfl
    try dsimp only
    simp only [OpRuns, execOp, evalOf, resolve, invoke, builtin, Sem.run_bind, Sem.run_pure, Result.andThen_ok, List.map_toArray, List.map_cons, List.map_nil, a157, a160, hr]
    refine ⟨trivial, ?_, ?_⟩
    ·intro j s u hj hd hphi
     refine ⟨hphi.1, fun e => ?_, fun e => ?_⟩
     ·obtain ⟨h1, h2, h3, t1, h4⟩ := hphi.2.1 e
      have hl1 : h1 < w8.heap.size := (Array.getElem?_eq_some_iff.1 h4).1
      exact ⟨h1, h2, h3, t1, (hgrow.block h1 hl1 (fun e => by have := (HPO.out.lt h1 e.symm).2; have := HN.out; omega)).trans h4⟩
     exfalso
     rw [e] at hd
     exact dst_only (t := 8) (d := 161) (by kernel_rfl) j hj hd
    intro d hd
    cases hd
    exact ⟨trivial, (ν rfl), fun _ => ⟨w8, w9, gg, cap, rfl, hI, hgrow, by rw [HXS.out]; exact hown, hat, Below.refl _ _⟩⟩
   case hend =>
   intro listed a w13 hall hdf hsz hJ hPhi κ
   obtain ⟨w12, w13', gP, capP, x161, hI, hgr, ho, hat, hB13⟩ := (hPhi 8 161 (by omega) (by kernel_rfl)).2.2 rfl
   have x153 : a.tmps.getD 153 undef = .pointer (some ⟨fb, q * 5, none⟩) := (hPhi 0 153 (by omega) (by kernel_rfl)).1
   replace hgr := grown_below hgr hB13
   replace ho := own_ext ho hB13
   rw [x161] at ho
   rw [HXS.out] at ho
   replace hdf : a.defers = [] := hdf
   replace hsz : a.tmps.size = 191 := hsz
   have x0 := κO κ 0 (Value.slice (some { block := g, off := o }) l.length cp1) rfl rfl
   have x1 := κO κ 1 (Value.agg #[Value.string (sB d.title), Value.int IntKind.u8 d.rate, Value.bool d.drop, Value.slice A d.cuts.length cp]) rfl rfl
   have x2 := κO κ 2 (Value.int IntKind.i64 least) rfl rfl
   have x3 := κO κ 3 (undef) rfl rfl
   have x4 := κO κ 4 (Value.pointer (some { block := G, off := 0 })) rfl rfl
   have x5 := κO κ 5 (undef) rfl rfl
   have x6 := κO κ 6 (Value.pointer (some { block := G + 1, off := 0 })) rfl rfl
   have x7 := κO κ 7 (Value.slice none 0 0) rfl rfl
   have x8 := κO κ 8 (Value.int IntKind.i64 0) rfl rfl
   have x9 := κO κ 9 (Value.int IntKind.i64 0) rfl rfl
   have x10 := κO κ 10 (Value.slice (some { block := fb, off := 0 }) nF fc) rfl rfl
   have x11 := κO κ 11 (Value.map (some b)) rfl rfl
   have x12 := κO κ 12 (undef) rfl rfl
   have x13 := κO κ 13 (u13) rfl rfl
   have x14 := κO κ 14 (u14) rfl rfl
   have x15 := κO κ 15 (u15) rfl rfl
   have x16 := κO κ 16 (undef) rfl rfl
   have x17 := κO κ 17 (u17) rfl rfl
   have x18 := κO κ 18 (Value.pointer (some { block := h18, off := 0 })) rfl rfl
   have x19 := κO κ 19 (Value.pointer (some { block := wj.heap.size, off := 0 })) rfl rfl
   have x20 := κO κ 20 (Value.int IntKind.i64 0) rfl rfl
   have x21 := κO κ 21 (undef) rfl rfl
   have x22 := κO κ 22 (Value.pointer (some { block := X, off := 0 })) rfl rfl
   have x23 := κO κ 23 (Value.int IntKind.i64 (↑j0 : Int)) rfl rfl
   have x24 := κO κ 24 (Value.int IntKind.i64 (↑j : Int)) rfl rfl
   have x25 := κO κ 25 (Value.pointer (some { block := Y, off := 0 })) rfl rfl
   have x26 := κO κ 26 (Value.pointer (some { block := Z, off := 0 })) rfl rfl
   have x27 := κO κ 27 (Value.bool true) rfl rfl
   have x28 := κO κ 28 (Value.pointer (some { block := fb, off := q * 5 })) rfl rfl
   have x29 := κO κ 29 (Value.slice (some { block := g, off := o }) l.length cp1) rfl rfl
   have x30 := κO κ 30 (Value.agg #[Value.string (sB d.title), Value.int IntKind.u8 d.rate, Value.bool d.drop, Value.slice A d.cuts.length cp]) rfl rfl
   have x31 := κO κ 31 (Value.int IntKind.i64 0) rfl rfl
   have x32 := κO κ 32 (Value.int IntKind.i64 0) rfl rfl
   have x33 := κO κ 33 (Value.bool false) rfl rfl
   have x34 := κO κ 34 (undef) rfl rfl
   have x35 := κO κ 35 (undef) rfl rfl
   have x36 := κO κ 36 (Value.int IntKind.i64 least) rfl rfl
   have x37 := κO κ 37 (Value.bool (decide (least < 0))) rfl rfl
   have x38 := κO κ 38 (undef) rfl rfl
   have x39 := κO κ 39 (Value.map (some b)) rfl rfl
   have x40 := κO κ 40 (Value.slice (some { block := g, off := o }) l.length cp1) rfl rfl
   have x41 := κO κ 41 (Value.int IntKind.i64 (↑l.length : Int)) rfl rfl
   have x42 := κO κ 42 (Value.int IntKind.i64 (↑l.length : Int)) rfl rfl
   have x43 := κO κ 43 (Value.bool false) rfl rfl
   have x44 := κO κ 44 (u44) rfl rfl
   have x45 := κO κ 45 (u45) rfl rfl
   have x46 := κO κ 46 (u46) rfl rfl
   have x47 := κO κ 47 (u47) rfl rfl
   have x48 := κO κ 48 (u48) rfl rfl
   have x49 := κO κ 49 (u49) rfl rfl
   have x50 := κO κ 50 (u50) rfl rfl
   have x51 := κO κ 51 (u51) rfl rfl
   have x52 := κO κ 52 (u52) rfl rfl
   have x53 := κO κ 53 (u53) rfl rfl
   have x54 := κO κ 54 (u54) rfl rfl
   have x55 := κO κ 55 (u55) rfl rfl
   have x56 := κO κ 56 (u56) rfl rfl
   have x57 := κO κ 57 (u57) rfl rfl
   have x58 := κO κ 58 (u58) rfl rfl
   have x59 := κO κ 59 (u59) rfl rfl
   have x60 := κO κ 60 (u60) rfl rfl
   have x61 := κO κ 61 (u61) rfl rfl
   have x62 := κO κ 62 (u62) rfl rfl
   have x63 := κO κ 63 (u63) rfl rfl
   have x64 := κO κ 64 (u64) rfl rfl
   have x65 := κO κ 65 (u65) rfl rfl
   have x66 := κO κ 66 (u66) rfl rfl
   have x67 := κO κ 67 (u67) rfl rfl
   have x68 := κO κ 68 (u68) rfl rfl
   have x69 := κO κ 69 (u69) rfl rfl
   have x70 := κO κ 70 (u70) rfl rfl
   have x71 := κO κ 71 (u71) rfl rfl
   have x72 := κO κ 72 (u72) rfl rfl
   have x73 := κO κ 73 (u73) rfl rfl
   have x74 := κO κ 74 (u74) rfl rfl
   have x75 := κO κ 75 (u75) rfl rfl
   have x76 := κO κ 76 (u76) rfl rfl
   have x77 := κO κ 77 (u77) rfl rfl
   have x78 := κO κ 78 (u78) rfl rfl
   have x79 := κO κ 79 (u79) rfl rfl
   have x80 := κO κ 80 (u80) rfl rfl
   have x81 := κO κ 81 (u81) rfl rfl
   have x82 := κO κ 82 (u82) rfl rfl
   have x83 := κO κ 83 (u83) rfl rfl
   have x84 := κO κ 84 (u84) rfl rfl
   have x85 := κO κ 85 (u85) rfl rfl
   have x86 := κO κ 86 (u86) rfl rfl
   have x87 := κO κ 87 (u87) rfl rfl
   have x88 := κO κ 88 (u88) rfl rfl
   have x89 := κO κ 89 (u89) rfl rfl
   have x90 := κO κ 90 (Value.agg #[Value.string (sB d.title), Value.string (sB lg), Value.int IntKind.u8 d.rate, Value.bool d.drop, Value.int IntKind.i64 0, Value.slice R90 nR r90, Value.slice none 0 0, Value.slice none 0 0]) rfl rfl
   have x91 := κO κ 91 (Value.tuple #[Value.agg #[Value.string (sB d.title), Value.int IntKind.u8 d.rate, Value.bool d.drop, Value.slice (some { block := gJ, off := 0 }) nJ jc], Value.int IntKind.i64 0]) rfl rfl
   have x92 := κO κ 92 (Value.agg #[Value.string (sB d.title), Value.int IntKind.u8 d.rate, Value.bool d.drop, Value.slice A d.cuts.length cp]) rfl rfl
   have x93 := κO κ 93 (Value.tuple #[Value.agg #[Value.string (sB d.title), Value.int IntKind.u8 d.rate, Value.bool d.drop, Value.slice (some { block := gJ, off := 0 }) nJ jc], Value.int IntKind.i64 0]) rfl rfl
   have x94 := κO κ 94 (Value.agg #[Value.string (sB d.title), Value.int IntKind.u8 d.rate, Value.bool d.drop, Value.slice (some { block := gJ, off := 0 }) nJ jc]) rfl rfl
   have x95 := κO κ 95 (Value.int IntKind.i64 0) rfl rfl
   have x96 := κO κ 96 (Value.pointer (some { block := wj.heap.size, off := 3 })) rfl rfl
   have x97 := κO κ 97 (Value.slice (some { block := gJ, off := 0 }) nJ jc) rfl rfl
   have x98 := κO κ 98 (Value.int IntKind.i64 (↑nJ : Int)) rfl rfl
   have x99 := κO κ 99 (Value.int IntKind.i64 (↑k : Int)) rfl rfl
   have x100 := κO κ 100 (Value.bool true) rfl rfl
   have x101 := κO κ 101 (Value.pointer (some { block := gJ, off := k * 7 })) rfl rfl
   have x102 := κO κ 102 (Value.agg #[Value.int IntKind.i64 z.num, Value.string (sB z.reel), Value.int IntKind.i64 z.src, Value.int IntKind.i64 z.i, Value.int IntKind.i64 z.o, Value.int IntKind.i64 z.sn, Value.int IntKind.i64 z.sd]) rfl rfl
   have x103 := κO κ 103 (Value.slice (some { block := g, off := o }) l.length cp1) rfl rfl
   have x104 := κO κ 104 (Value.func (Fn.func 31) #[] #[Value.pointer (some { block := X, off := 0 })]) rfl rfl
   have x105 := κO κ 105 (Value.int IntKind.i64 (↑j0 : Int)) rfl rfl
   have x106 := κO κ 106 (Value.int IntKind.i64 (↑j0 : Int)) rfl rfl
   have x107 := κO κ 107 (Value.bool (decide ((↑j0 : Int) < 0))) rfl rfl
   have x108 := κO κ 108 (Value.slice (some { block := g, off := o }) l.length cp1) rfl rfl
   have x109 := κO κ 109 (Value.int IntKind.i64 (↑j0 : Int)) rfl rfl
   have x110 := κO κ 110 (Value.pointer (some { block := g, off := o + j0 * 9 })) rfl rfl
   have x111 := κO κ 111 (Value.pointer (some { block := g, off := o + j0 * 9 + 1 })) rfl rfl
   have x112 := κO κ 112 (Value.agg #[Value.string (sB xd.doc.title), Value.string (sB xd.doc.lang), Value.int IntKind.u8 xd.doc.rate, Value.bool xd.doc.drop, Value.int IntKind.i64 xd.doc.last, Value.slice rA xd.doc.regs.length rc, Value.slice eA nE ec, Value.slice sA xd.doc.cms.length sc]) rfl rfl
   have x113 := κO κ 113 (Value.agg #[Value.string (sB xd.doc.title), Value.string (sB xd.doc.lang), Value.int IntKind.u8 xd.doc.rate, Value.bool xd.doc.drop, Value.int IntKind.i64 xd.doc.last, Value.slice rA9 r91 r92, Value.slice (some { block := gC, off := 0 }) nE cc, Value.slice cA9 c91 c92]) rfl rfl
   have x114 := κO κ 114 (Value.slice (some { block := gC, off := 0 }) nE cc) rfl rfl
   have x115 := κO κ 115 (Value.int IntKind.i64 (↑nE : Int)) rfl rfl
   have x116 := κO κ 116 (Value.int IntKind.i64 (↑j : Int)) rfl rfl
   have x117 := κO κ 117 (Value.bool true) rfl rfl
   have x118 := κO κ 118 (Value.int IntKind.i64 (↑j : Int)) rfl rfl
   have x119 := κO κ 119 (Value.pointer (some { block := gC, off := j * 7 })) rfl rfl
   have x120 := κO κ 120 (Value.agg #[Value.int IntKind.i64 y.id, Value.int IntKind.i64 y.i, Value.int IntKind.i64 y.o, Value.string (sB y.reg), Value.int IntKind.u8 y.kind, Value.string (sB y.spk), Value.slice rA2 y.rows.length rc2]) rfl rfl
   have x121 := κO κ 121 (Value.tuple #[Value.agg #[Value.int IntKind.i64 pv.i, Value.int IntKind.i64 pv.o], Value.bool true]) rfl rfl
   have x122 := κO κ 122 (Value.agg #[Value.int IntKind.i64 z.num, Value.string (sB z.reel), Value.int IntKind.i64 z.src, Value.int IntKind.i64 z.i, Value.int IntKind.i64 z.o, Value.int IntKind.i64 z.sn, Value.int IntKind.i64 z.sd]) rfl rfl
   have x123 := κO κ 123 (Value.pointer (some { block := Y, off := 1 })) rfl rfl
   have x124 := κO κ 124 (Value.agg #[Value.int IntKind.i64 y.i, Value.int IntKind.i64 y.o]) rfl rfl
   have x125 := κO κ 125 (Value.tuple #[Value.agg #[Value.int IntKind.i64 pv.i, Value.int IntKind.i64 pv.o], Value.bool true]) rfl rfl
   have x126 := κO κ 126 (Value.agg #[Value.int IntKind.i64 pv.i, Value.int IntKind.i64 pv.o]) rfl rfl
   have x127 := κO κ 127 (Value.bool true) rfl rfl
   have x128 := κO κ 128 (Value.bool true) rfl rfl
   have x129 := κO κ 129 (Value.bool false) rfl rfl
   have x130 := κO κ 130 (Value.pointer (some { block := h18, off := 4 })) rfl rfl
   have x131 := κO κ 131 (Value.int IntKind.i64 (↑Q.length : Int)) rfl rfl
   have x132 := κO κ 132 (Value.int IntKind.i64 ((↑Q.length : Int) + 1)) rfl rfl
   have x133 := κO κ 133 (Value.pointer (some { block := h18, off := 4 })) rfl rfl
   have x134 := κO κ 134 (Value.pointer (some { block := h18, off := 4 })) rfl rfl
   have x135 := κO κ 135 (Value.int IntKind.i64 ((↑Q.length : Int) + 1)) rfl rfl
   have x136 := κO κ 136 (Value.agg #[Value.int IntKind.i64 pv.i, Value.int IntKind.i64 pv.o]) rfl rfl
   have x137 := κO κ 137 (Value.pointer (some { block := Y, off := 0 })) rfl rfl
   have x138 := κO κ 138 (Value.pointer (some { block := Y, off := 1 })) rfl rfl
   have x139 := κO κ 139 (Value.pointer (some { block := h18, off := 6 })) rfl rfl
   have x140 := κO κ 140 (Value.slice evA Q.length evc) rfl rfl
   have x141 := κO κ 141 (Value.agg #[Value.int IntKind.i64 ((↑Q.length : Int) + 1), Value.int IntKind.i64 pv.i, Value.int IntKind.i64 pv.o, Value.string (sB y.reg), Value.int IntKind.u8 y.kind, Value.string (sB y.spk), Value.slice rA2 y.rows.length rc2]) rfl rfl
   have x142 := κO κ 142 (Value.slice (some { block := w9.heap.size, off := 0 }) 1 1) rfl rfl
   have x143 := κO κ 143 (Value.slice (some { block := gE, off := 0 }) (Q.length + 1) capE) rfl rfl
   have x144 := κO κ 144 (Value.pointer (some { block := h18, off := 6 })) rfl rfl
   have x145 := κO κ 145 (Value.slice (some { block := fb, off := 0 }) nF fc) rfl rfl
   have x146 := κO κ 146 (Value.map (some b)) rfl rfl
   have x147 := κO κ 147 (Value.pointer (some { block := X, off := 1 })) rfl rfl
   have x148 := κO κ 148 (Value.string (sB z.reel)) rfl rfl
   have x149 := κO κ 149 (Value.int IntKind.i64 (↑S : Int)) rfl rfl
   have x150 := κO κ 150 (Value.int IntKind.i64 (↑j : Int)) rfl rfl
   have x151 := κO κ 151 (Value.int IntKind.i64 (↑q : Int)) rfl rfl
   have x152 := κO κ 152 (Value.pointer (some { block := fb, off := q * 5 })) rfl rfl
   have x162 := κO κ 162 (u162) rfl rfl
   have x163 := κO κ 163 (u163) rfl rfl
   have x164 := κO κ 164 (u164) rfl rfl
   have x165 := κO κ 165 (u165) rfl rfl
   have x166 := κO κ 166 (u166) rfl rfl
   have x167 := κO κ 167 (u167) rfl rfl
   have x168 := κO κ 168 (u168) rfl rfl
   have x169 := κO κ 169 (u169) rfl rfl
   have x170 := κO κ 170 (u170) rfl rfl
   have x171 := κO κ 171 (u171) rfl rfl
   have x172 := κO κ 172 (u172) rfl rfl
   have x173 := κO κ 173 (u173) rfl rfl
   have x174 := κO κ 174 (u174) rfl rfl
   have x175 := κO κ 175 (u175) rfl rfl
   have x176 := κO κ 176 (u176) rfl rfl
   have x177 := κO κ 177 (u177) rfl rfl
   have x178 := κO κ 178 (u178) rfl rfl
   have x179 := κO κ 179 (u179) rfl rfl
   have x180 := κO κ 180 (u180) rfl rfl
   have x181 := κO κ 181 (u181) rfl rfl
   have x182 := κO κ 182 (u182) rfl rfl
   have x183 := κO κ 183 (u183) rfl rfl
   have x184 := κO κ 184 (undef) rfl rfl
   have x185 := κO κ 185 (undef) rfl rfl
   have x186 := κO κ 186 (undef) rfl rfl
   have x187 := κO κ 187 (undef) rfl rfl
   have x188 := κO κ 188 (undef) rfl rfl
   have x189 := κO κ 189 (undef) rfl rfl
   have x190 := κO κ 190 (undef) rfl rfl
   have ea := act_lit hsz hdf
   simp only [getDs] at ea
   rw [x161, x153, x0, x1, x2, x3, x4, x5, x6, x7, x8, x9, x10, x11, x12, x13, x14, x15, x16, x17, x18, x19, x20, x21, x22, x23, x24, x25, x26, x27, x28, x29, x30, x31, x32, x33, x34, x35, x36, x37, x38, x39, x40, x41, x42, x43, x44, x45, x46, x47, x48, x49, x50, x51, x52, x53, x54, x55, x56, x57, x58, x59, x60, x61, x62, x63, x64, x65, x66, x67, x68, x69, x70, x71, x72, x73, x74, x75, x76, x77, x78, x79, x80, x81, x82, x83, x84, x85, x86, x87, x88, x89, x90, x91, x92, x93, x94, x95, x96, x97, x98, x99, x100, x101, x102, x103, x104, x105, x106, x107, x108, x109, x110, x111, x112, x113, x114, x115, x116, x117, x118, x119, x120, x121, x122, x123, x124, x125, x126, x127, x128, x129, x130, x131, x132, x133, x134, x135, x136, x137, x138, x139, x140, x141, x142, x143, x144, x145, x146, x147, x148, x149, x150, x151, x152, x162, x163, x164, x165, x166, x167, x168, x169, x170, x171, x172, x173, x174, x175, x176, x177, x178, x179, x180, x181, x182, x183, x184, x185, x186, x187, x188, x189, x190] at ea
   rw [ea]
   clear ea x161 x153 x0 x1 x2 x3 x4 x5 x6 x7 x8 x9 x10 x11 x12 x13 x14 x15 x16 x17 x18 x19 x20 x21 x22 x23 x24 x25 x26 x27 x28 x29 x30 x31 x32 x33 x34 x35 x36 x37 x38 x39 x40 x41 x42 x43 x44 x45 x46 x47 x48 x49 x50 x51 x52 x53 x54 x55 x56 x57 x58 x59 x60 x61 x62 x63 x64 x65 x66 x67 x68 x69 x70 x71 x72 x73 x74 x75 x76 x77 x78 x79 x80 x81 x82 x83 x84 x85 x86 x87 x88 x89 x90 x91 x92 x93 x94 x95 x96 x97 x98 x99 x100 x101 x102 x103 x104 x105 x106 x107 x108 x109 x110 x111 x112 x113 x114 x115 x116 x117 x118 x119 x120 x121 x122 x123 x124 x125 x126 x127 x128 x129 x130 x131 x132 x133 x134 x135 x136 x137 x138 x139 x140 x141 x142 x143 x144 x145 x146 x147 x148 x149 x150 x151 x152 x162 x163 x164 x165 x166 x167 x168 x169 x170 x171 x172 x173 x174 x175 x176 x177 x178 x179 x180 x181 x182 x183 x184 x185 x186 x187 x188 x189 x190 hPhi κ hdf hsz hall hJ
   generalize a.tmps.getD 154 undef = u154, a.tmps.getD 155 undef = u155, a.tmps.getD 156 undef = u156, a.tmps.getD 157 undef = u157, a.tmps.getD 158 undef = u158, a.tmps.getD 159 undef = u159, a.tmps.getD 160 undef = u160
   clear a
   have hIs : Below w11.heap.size w11 w12 := hI.mono (Nat.le_of_eq HN.out.symm)
   have hb11 : b ≤ w11.heap.size := by have h : b < w11.heap.size := CS11.out.map.lt; omega
   have CS12 := ι (CS11.out.ext hIs)
   have X12 := ι (X11.out.ext hIs)
   have Z12 := ι (Z11.out.ext hIs)
   have C12 := ι (evs_ext C11.out hIs)
   have P12 := ι (own_ext HPO.out hIs)
   have BR12 := ι (BR11.out.trans (hIs.mono (by omega)))
   have hb12 : b ≤ w12.heap.size := by have := hIs.size; omega
   have HF12 := ι (own_ext HFO.out hIs)
   clear hIs d2 hfN hYN HSZ e0 hI CS11 X11 Z11 C11 HPO BR11 Y11 HFO HN
   have K13 : KeepX 2 w12 w13 := KeepX.grown P12.out hgr
   obtain ⟨w14, hw14⟩ : ∃ w14, w14 = w13.setCell ⟨fb, q * 5 + 2, none⟩ (.slice (some ⟨gP, 0, none⟩) (nP + 1) capP) := ⟨_, rfl⟩
   have CS14 := ι (show CS (mkP l d b h18 G lg (.slice R90 nR r90) ys (.slice (some ⟨fb, 0, none⟩) nF fc) (.slice (some ⟨gJ, 0, none⟩) nJ jc)) ((Q.length : Int) + 1) (.slice (some ⟨gE, 0, none⟩) (Q.length + 1) capE) (evsA (Q ++ [(staN l d j0 + j, prtE z Q.length y)])) (fatA l d (Q ++ [(staN l d j0 + j, prtE z Q.length y)])) (ps.set q (.slice (some ⟨gP, 0, none⟩) (nP + 1) capP)) w14 by
    have h1 := CS12.out.addPart (w1 := w13) (fb := fb) (fc := fc) (m := nF) rfl HFQ.out HPQ.out (id := (Q.length : Int) + 1) (g := gP) (cap := capP) (k := nP + 1) (by rw [← HNP.out, List.map_append]; exact ho) hgr (hat.imp id (fun h => Nat.le_of_eq h.symm))
    have h2 : fatA l d (Q ++ [(staN l d j0 + j, prtE z Q.length y)]) = (fatA l d Q).set q (f.add ((Q.length : Int) + 1)) := by
     have h3 : staN l d j0 + j = q := by rw [HQE.out, HSE.out]
     rw [h3, fatA_snoc HFQ.out, HPE.out]
    rw [h2, hw14]
    exact h1)
   have FO13 := K13.own HF12.out (by decide)
   have dq : w13.cell? ⟨fb, q * 5 + 2, none⟩ = some (.slice pA nP pC) := by
    have := FO13.cells (g := fb) rfl (q * 5 + 2) (.slice pA nP pC) (by rw [ftC_get HFQ.out HPQ.out 2 (by decide)]; rfl)
    rwa [Addr.add_lit, Nat.zero_add] at this
   have dy : w13.frozen? ⟨fb, q * 5 + 2, none⟩ = false := by
    have h9 : nF = (fatA l d Q).length := by rw [fatA_len]; exact HNF.out
    rw [h9] at FO13
    exact own_free FO13 _
   obtain ⟨fcur, hfcur⟩ := own_block FO13 (g := fb) rfl
   have K14 : KeepX 48 w13 w14 := by rw [hw14]; exact KeepX.put hfcur _ _
   have Z13 := K13.heldT Z12.out (by decide)
   have Z14 := K14.heldT Z13 (by decide)
   have X14 := ι (K14.heldT (K13.heldT X12.out (by decide)) (by decide))
   have C14 := ι (K14.evs (K13.evs C12.out (by decide) (by unfold IsRow; decide)) (by decide) (by unfold IsRow; decide))
   have BR14 := ι (show Below b w2 w14 by rw [hw14]; exact (BR12.out.grown hgr hb12 (own_base P12.out)).setCell (p := ⟨fb, q * 5 + 2, none⟩) (own_base HF12.out fb rfl) _)
   have zq0 : w13.cell? ⟨Z, 0, none⟩ = some (.int .i64 pv.i) := Z13.held.cell 0
   have zq1 : w13.cell? ⟨Z, 1, none⟩ = some (.int .i64 pv.o) := Z13.held.cell 1
   have hzf : Z ≠ fb := fun e => by
    rw [e] at Z13
    unfold HeldT at Z13
    rw [hfcur] at Z13
    injection Z13 with h9
    injection h9 with _ h9
    exact absurd h9 (by decide)
   have hzf2 : fb ≠ Z := fun e => hzf e.symm
   have hfl13 : fb < w13.heap.size := World.block_lt_of_cell? w13 _ dq
   have hzl13 : Z < w13.heap.size := Z13.lt
   have t1 : IntKind.i64.wrap (pv.o - pv.i) = pv.o - pv.i := by rw [IntKind.wrap_i64]; omega
   have t2 : ¬ pv.o - pv.i < least := by omega
   have HW14 := ι hw14
   clear ho hgr hat hB13 K13 FO13 hfcur K14 Z13 Z14 CS12 X12 Z12 C12 P12 BR12 HF12 hw14
   go_wp2_with fail
   rw [← HW14.out]
   clear dq dy zq0 zq1
   go_roundw
   case rel =>
    have h7 : (((Q ++ [(staN l d j0 + j, prtE z Q.length y)]).length : Nat) : Int) = (Q.length : Int) + 1 := by rw [List.length_append]; simp
    have HIN14 := ι (show InI l d (mkP l d b h18 G lg (.slice R90 nR r90) ys (.slice (some ⟨fb, 0, none⟩) nF fc) (.slice (some ⟨gJ, 0, none⟩) nJ jc)) z (staN l d j0) k xd.doc.evs Q1 (.slice (some ⟨gC, 0, none⟩) nE cc) (j + 1) w14 from InI.of HI1.out (by rw [List.length_append]; simp only [List.length_singleton]; omega) (by rw [h7]; exact CS14.out) HEG.out)
    first | exact ⟨j + 1, by omega, by go_num, HIN14, X14, C14, BR14⟩ | ((repeat apply Exists.intro); refine ⟨?_, rfl⟩; exact ⟨j + 1, by omega, by go_num, HIN14, X14, C14, BR14⟩) | (refine ⟨_, _, _, _, _, _, ⟨j + 1, by omega, ?_, HIN14, X14, C14, BR14⟩, rfl, rfl, rfl, rfl, rfl, rfl⟩; go_num)
   case measure => simp [intOf]; omega
  obtain rfl : j = nE := by omega
  have HXN := ι (show OutI l d (mkP l d b h18 G lg (.slice R90 nR r90) ys (.slice fA nF fc) (.slice (some ⟨gJ, 0, none⟩) nJ jc)) (k + 1) wr by
   obtain ⟨Q, ev, ps, h1, h2, h3, _⟩ := HIN.out
   rw [HNE.out, List.drop_length] at h1
   have h1 : Q = Q1 := h1
   subst h1
   exact ⟨Q, ev, ps, HQ1.out, by omega, h3⟩)
  clear hjt
  go_wp2_with fail
  go_roundw
  case rel => exact ⟨k + 1, by omega, by go_num, HXN, BR⟩
  case measure => simp [intOf]; omega
 obtain rfl : k = nJ := by omega
 obtain ⟨Q, ev, ps, i1, i2, i3⟩ := HX.out
 rw [HNJ.out, List.drop_length] at i1
 have i1 : Q = rawP l d := i1
 obtain ⟨evA, evc, rfl⟩ : ∃ A c, ev = .slice A Q.length c := by
  obtain ⟨A, c, e, _⟩ := i3.evs.seq (by decide)
  rw [evsA_len] at e
  exact ⟨A, c, e⟩
 have CSE := ι i3
 have HQR := ι i1
 have hql : Q.length ≤ 26000 := by have : k * 400 ≤ 64 * 400 := Nat.mul_le_mul_right 400 (by omega); omega
 have oq := CSE.out.out.held.cell
 change ∀ i, wr.cell? ⟨h18, i, none⟩ = [Value.string (sB d.title), .string (sB lg), .int .u8 d.rate, .bool d.drop, .int .i64 (Q.length : Int), .slice R90 nR r90, .slice evA Q.length evc, .slice none 0 0][i]? at oq
 have rq := CSE.out.res.held.cell
 have ry := CSE.out.res.held.free
 change ∀ i, wr.cell? ⟨G + 1, i, none⟩ = zdC[i]? at rq
 change ∀ i, wr.frozen? ⟨G + 1, i, none⟩ = false at ry
 have hO9 : h18 < wr.heap.size := CSE.out.out.lt
 have hR9 : G + 1 < wr.heap.size := CSE.out.res.lt
 have hne3 : h18 ≠ G + 1 := fun e => hne2 e.symm
 clear i1 i2 i3 HX hlt
 by_cases h400 : 400 < Q.length
 ·have t0 : (400 : Int) < (Q.length : Int) := by omega
  have HN4 := ι h400
  clear h400
  go_wp2_with (with_reducible refine stop_at ?_)
  unfold StopAt
  clear oq rq ry
  generalize hw3 : World.setCell _ _ _ = w3
  have R3 := ι (show HeldT w3 (G + 1) 41 zdC by subst hw3; exact HeldT.all (show HeldT wr (G + 1) _ zdC from CSE.out.res) zdC rfl)
  have B3 := ι (show Below w.heap.size w w3 by subst hw3; exact Below.all (by have := HGe.out; omega) zdC 0 BW.out)
  have fr := R3.out.held.cell
  refine bodyPost_ret (by simp [results, Tryz.results9, fr, go_sem]; try rfl) rfl ?_
  exact ConfPost.of (dd := dc0) (F := []) (dc0_at _) (fates_nil _) ⟨fun h => absurd h (by decide), fun h => absurd h.2 (by rw [← HQR.out]; have := HN4.out; omega)⟩ (fun h => absurd h (by decide)) B3.out
 have t0 : ¬ (400 : Int) < (Q.length : Int) := by omega
 have HN4 := ι (show Q.length ≤ 400 by omega)
 clear h400
 go_wp2_with (with_reducible refine stop_at ?_)
 unfold StopAt
 clear oq rq ry
 generalize hw3 : World.setCell _ _ _ = w3
 have R3 := ι (show HeldT w3 (G + 1) 41 [Value.string (sB d.title), .string (sB lg), .int .u8 d.rate, .bool d.drop, .int .i64 (Q.length : Int), .slice R90 nR r90, .slice evA Q.length evc, .slice none 0 0] by subst hw3; exact HeldT.all (show HeldT wr (G + 1) _ zdC from CSE.out.res) [Value.string (sB d.title), .string (sB lg), .int .u8 d.rate, .bool d.drop, .int .i64 (Q.length : Int), .slice R90 nR r90, .slice evA Q.length evc, .slice none 0 0] rfl)
 have B3 := ι (show Below w.heap.size w w3 by subst hw3; exact Below.all (by have := HGe.out; omega) [Value.string (sB d.title), .string (sB lg), .int .u8 d.rate, .bool d.drop, .int .i64 (Q.length : Int), .slice R90 nR r90, .slice evA Q.length evc, .slice none 0 0] 0 BW.out)
 have K3 : KeepX 41 wr w3 := by subst hw3; exact KeepX.puts [Value.string (sB d.title), .string (sB lg), .int .u8 d.rate, .bool d.drop, .int .i64 (Q.length : Int), .slice R90 nR r90, .slice evA Q.length evc, .slice none 0 0] 0 (show HeldT wr (G + 1) _ zdC from CSE.out.res)
 have hyl : ys.length = nR := by rw [HRE.out]; exact HYP.out.length_eq
 have HDA := ι (show DocAt w3 ⟨d.title, lg, d.rate, d.drop, (Q.length : Int), ys, evsA Q, []⟩ (.slice R90 nR r90) (.slice evA Q.length evc) (.slice none 0 0) from
  ⟨OwnS.at (rgs_own (K3.own CSE.out.rgs (by decide))) (by decide), SeqAt.mono (OwnS.at (K3.evs CSE.out.evs (by decide) (by unfold IsRow; decide)) (by decide)) (fun _ _ h => h.c), SeqAt.nil _ _ _⟩)
 have HFA := ι (show FatesAt w3 (.slice fA nF fc) (fatA l d Q) from (CSE.out.fts.keep K3 (by decide) (by decide)).at)
 have fr := R3.out.held.cell
 refine bodyPost_ret (by simp [results, Tryz.results9, fr, go_sem]; try rfl) rfl ?_
 exact ConfPost.of (dd := ⟨d.title, lg, d.rate, d.drop, (Q.length : Int), ys, evsA Q, []⟩) HDA.out HFA.out ⟨fun _ => ⟨HOK.out, by rw [← HQR.out]; exact HN4.out⟩, fun _ => rfl⟩ (fun _ => ⟨by rw [← HQR.out], ys, HYP.out, HYS.out, by rw [← HQR.out, HLE.out]⟩) B3.out
end Go.Proofs.YtmopjhbfobmklaaGreatDoor
