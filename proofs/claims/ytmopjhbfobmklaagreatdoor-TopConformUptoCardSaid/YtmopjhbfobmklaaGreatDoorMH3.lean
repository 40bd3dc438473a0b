/-
  The contracts of source, At and Played of reel. Their conditions are their hypotheses.
-/
import Derived.Test.YtmopjhbfobmklaaGreatDoorMH2
import Derived.Test.YtmopjhbfobmklaaGreatDoorMH0
import Derived.Test.YtmopjhbfobmklaaGreatDoorMBi
namespace Go.Proofs.YtmopjhbfobmklaaGreatDoor
open Go.RowKit Go.Joins
set_option linter.unusedVariables false
set_option linter.unusedSimpArgs false
theorem source_any (c : Ct) (rec : Int) (w : World) (h : spdB (pcOf c) = true) (h1 : 0 ≤ rec - c.i) (h2 : rec - c.i ≤ 5184000) (h3 : 0 ≤ c.i) (h3' : c.i ≤ 5184000) (h4 : 0 ≤ c.src) (h5 : c.src ≤ 5184000) :
  Calls Tryz.prog 37 #[c.v, .int .i64 rec] w fun e w' => e = .returned (.int .i64 (ledP (pcOf c) rec)) ∧ Below w.heap.size w w' := by
 obtain ⟨k1, k2, k3, k4, _⟩ := spd_bd h
 obtain ⟨num, reel, src, i, o, n, d⟩ := c
 simp only [pcOf] at h1 h2 h3 h3' h4 h5 k1 k2 k3 k4
 obtain ⟨K, hK⟩ : ∃ K, K = (rec - i) * n := ⟨_, rfl⟩
 obtain ⟨b1, b2⟩ := prod_in k1 k2 (show 0 ≤ rec - i by omega) (by omega)
 rw [← hK] at b1 b2
 have hq := quot_floor b1 b2 k3
 have hl : ledP (pcOf ⟨num, reel, src, i, o, n, d⟩) rec = src + K / d := by rw [hK]; rfl
 have b3 := Int.ediv_nonneg b1 (show 0 ≤ d by omega)
 have b4 := Int.ediv_le_self d b1
 rw [hl]
 have HQ := Lib.hid (fun W : World => Q.quotient_any K d 1 W (by omega) (by omega) (by omega) (by omega))
 rw [hq] at HQ
 obtain ⟨q, hqd⟩ : ∃ q, q = K / d := ⟨_, rfl⟩
 rw [← hqd] at HQ b3 b4 ⊢
 have b5 : q ≤ 160000000000 := by omega
 have wK : wrap64 ((rec - i) * n) = K := by rw [← hK]; go_arith
 have WK := Lib.hid wK
 clear hK hq hl hqd b1 b2 b4 h wK
 obtain ⟨D, hD⟩ : ∃ D, D = w.heap.size := ⟨_, rfl⟩
 have HD := Lib.hid hD
 rw [← hD]
 clear hD
 rw [show Ct.v ⟨num, reel, src, i, o, n, d⟩ = .agg #[.int .i64 num, .string (sB reel), .int .i64 src, .int .i64 i, .int .i64 o, .int .i64 n, .int .i64 d] from rfl]
 go_enter Tryz.func37, Tryz.ntmps37
 go_wp2_with fail
 rw [WK.out]
 rw [← HD.out]
 generalize hw1 : World.alloc w _ = w1
 have F1 := Lib.hid (show Held w1 D (Ct.cs ⟨num, reel, src, i, o, n, d⟩) by subst hw1; exact Held.new HD.out)
 have G1 := Lib.hid (show Below D w w1 by subst hw1; rw [HD.out]; exact Below.more' _ _)
 clear hw1
 refine (HQ.out w1).mono ?_
 rintro e w2 ⟨rfl, kk, rfl⟩
 have F2 := Lib.hid (F1.out.drewN kk)
 have G2 := Lib.hid (below_drewN G1.out kk)
 generalize w1.drewN kk = w2 at *
 have fq := F2.out.cell
 have hG2 := F2.out.lt
 unfold Ct.cs at fq
 go_wp2_with fail
 go_ret
 exact ⟨rfl, G2.out⟩
theorem led_bd {x : Ct} (h : CutG x) {rec : Int} (h1 : x.i ≤ rec) (h2 : rec < x.o) : x.src ≤ ledP (pcOf x) rec ∧ ledP (pcOf x) rec ≤ lastV x := by
 obtain ⟨k1, k2, k3, k4, _⟩ := spd_bd h.sp
 simp only [pcOf] at k1 k2 k3 k4
 unfold lastV ledP pcOf
 simp only []
 have a1 : 0 ≤ (rec - x.i) * x.sn := Int.mul_nonneg (by omega) k1
 have a2 : (rec - x.i) * x.sn ≤ (x.o - 1 - x.i) * x.sn := Int.mul_le_mul_of_nonneg_right (by omega) k1
 have a3 := Int.ediv_nonneg a1 (show 0 ≤ x.sd by omega)
 have a4 := Int.ediv_le_ediv (show 0 < x.sd by omega) a2
 omega
def PhiAtY (X G : Nat) (x : Ct) (rec q : Int) : Nat → Value → Prop
 | 31, v => v = .pointer (some ⟨X, 1, none⟩)
 | 32, v => v = .string (sB x.reel)
 | 33, v => v = .agg #[.int .i64 x.num, .string (sB x.reel), .int .i64 x.src, .int .i64 x.i, .int .i64 x.o, .int .i64 x.sn, .int .i64 x.sd]
 | 34, v => v = .int .i64 rec
 | 35, v => v = .int .i64 q
 | 36, v => v = .agg #[.string (sB x.reel), .int .i64 q]
 | _, _ => True
def PhiAt (X G : Nat) (x : Ct) (rec q : Int) (sl : Nat) (v : Value) (w : World) : Prop := PhiAtY X G x rec q sl v ∧ True
theorem PhiAt.ext (X G : Nat) (x : Ct) (rec q : Int) {w w' : World} (hb : Below w.heap.size w w') : ∀ sl v, PhiAt X G x rec q sl v w → PhiAt X G x rec q sl v w' := fun sl v h => ⟨h.1, h.2⟩
def PhiPlY (X N : Nat) (x : Ct) (q : Int) (uv : Value) : Nat → Value → Prop
 | 26, v => v = uv
 | 27, v => v = .pointer (some ⟨X, 2, none⟩)
 | 28, v => v = .int .i64 x.src
 | 29, v => v = .agg #[.int .i64 x.num, .string (sB x.reel), .int .i64 x.src, .int .i64 x.i, .int .i64 x.o, .int .i64 x.sn, .int .i64 x.sd]
 | 30, v => v = .pointer (some ⟨X, 3, none⟩)
 | 31, v => v = .pointer (some ⟨X, 4, none⟩)
 | 32, v => v = .int .i64 x.o
 | 33, v => v = .int .i64 (x.o - 1)
 | 34, v => v = .int .i64 q
 | 35, v => v = .int .i64 (q + 1)
 | 36, v => v = .agg #[.int .i64 x.src, .int .i64 (q + 1)]
 | _, _ => True
def PhiPl (X N : Nat) (x : Ct) (q : Int) (uv : Value) (sl : Nat) (v : Value) (w : World) : Prop := PhiPlY X N x q uv sl v ∧ (sl = 37 → (fun v w => ∃ h, v = .slice (some ⟨h, 0, none⟩) 1 1 ∧ N ≤ h ∧ Held w h [.int .i64 x.src, .int .i64 (q + 1)]) v w)
theorem PhiPl.ext (X N : Nat) (x : Ct) (q : Int) (uv : Value) {w w' : World} (hb : Below w.heap.size w w') : ∀ sl v, PhiPl X N x q uv sl v w → PhiPl X N x q uv sl v w' := fun sl v h => ⟨h.1, fun e => (fun q hb => let ⟨h1, h2, h3, h4⟩ := q; ⟨h1, h2, h3, h4.ext hb⟩) (h.2 e) hb⟩
set_option maxRecDepth 100000 in
set_option maxHeartbeats 8000000 in
theorem rat_any (d : Lst) (c : Value) (rec : Int) (w : World) (hd : CutsAt w c d.cuts) (ho : LsOk d) (hw : Wt w) :
  Calls Tryz.prog 12 #[d.v c, .int .i64 rec] w fun e w' => e = .returned (.tuple #[.agg #[.string (sB (atG d rec).1), .int .i64 (atG d rec).2.1], .bool (atG d rec).2.2]) ∧ Below w.heap.size w w' := by
 have HW := Lib.hid hw
 have HC := Lib.hid hd
 have HO := Lib.hid ho
 have hl := ho.cutl
 obtain ⟨A, cp, rfl⟩ := hd.form
 have HK := Lib.hid (fun W (hb : Below w.heap.size w W) => lcheck_any d _ W (HC.out.ext (Flat.stays _) hb) HO.out (HW.out.on hb))
 clear hw hd ho
 rw [show d.v (.slice A d.cuts.length cp) = .agg #[.string (sB d.title), .int .u8 d.rate, .bool d.drop, .slice A d.cuts.length cp] from rfl] at HK ⊢
 obtain ⟨G, hG⟩ : ∃ G, G = w.heap.size := ⟨_, rfl⟩
 obtain ⟨L, hL⟩ : ∃ L, L = lstE d := ⟨_, rfl⟩
 have HA := Lib.hid (show atG d rec = if L = 0 then atL rec d.cuts else ([], 0, false) by rw [hL]; rfl)
 have HG := Lib.hid (fun (h : L = 0) => (lst_ok (hL.symm.trans h)).1)
 rw [← hL] at HK
 obtain ⟨R, hR⟩ : ∃ R, R = atG d rec := ⟨_, rfl⟩
 rw [← hR] at HA ⊢
 clear hL hR
 go_enter Tryz.func12, Tryz.ntmps12
 go_wp2_with fail
 rw [← hG]
 generalize hw1 : World.alloc (World.alloc w _) _ = w1
 have F1 := Lib.hid (show Held w1 G (d.cs (.slice A d.cuts.length cp)) by subst hw1; exact (Held.new hG).alloc _)
 have R1 := Lib.hid (show Held w1 (G + 1) [.string (sB []), .int .i64 0] by subst hw1; exact Held.new (by simp [hG]))
 have B1 := Lib.hid (show Below w.heap.size w w1 by subst hw1; exact (Below.more' _ _).alloc (by simp) _)
 have HG0 := Lib.hid (show w.heap.size ≤ G by omega)
 clear hw1 hG
 refine (HK.out w1 B1.out).mono ?_
 rintro e w2 ⟨rfl, hb⟩
 have B2 := Lib.hid (B1.out.trans (hb.mono B1.out.size))
 have F2 := Lib.hid (F1.out.ext hb)
 have R2 := Lib.hid (R1.out.ext hb)
 clear hb F1 R1 B1 HK
 have fq := F2.out.cell
 have hG2 := F2.out.lt
 have hR2 := R2.out.lt
 unfold Lst.cs at fq
 by_cases h0 : L = 0
 ·subst h0
  have HA2 := Lib.hid (show R = atL rec d.cuts by rw [HA.out, if_pos rfl])
  have HG2 := Lib.hid (HG.out rfl)
  clear HA HG
  go_wp2_with fail
  clear fq
  go_loopw [15] (fun i wr => ∃ k : Nat, k ≤ d.cuts.length ∧ i = .int .i64 k ∧ Hid (atL rec (d.cuts.drop k) = R) ∧ Hid (Below w2.heap.size w2 wr)) (fun i _ => d.cuts.length - (intOf i).toNat)
  case atStart => exact ⟨0, Nat.zero_le _, rfl, Lib.hid (by rw [HA2.out]; rfl), Lib.hid (Below.refl _ _)⟩
  case round =>
   obtain ⟨k, hk, rfl, HF, BR⟩ := hrel
   have RR := Lib.hid (R2.out.below BR.out hR2)
   have BW := Lib.hid (show Below w.heap.size w wr from B2.out.trans (BR.out.mono B2.out.size))
   by_cases hlt : k < d.cuts.length
   ·have hlt2 : (k : Int) < (d.cuts.length : Int) := by omega
    obtain ⟨x, hx⟩ : ∃ x, d.cuts[k]? = some x := ⟨_, List.getElem?_eq_getElem hlt⟩
    have HD := Lib.hid (atL_drop (rec := rec) hx)
    have HX := Lib.hid (HG2.out.cut x (List.mem_of_getElem? hx))
    obtain ⟨b, o, rfl, q0, q1, q2, q3, q4, q5, q6⟩ := CutsAt.get (HC.out.ext (Flat.stays _) BW.out) hx
    have hbr : b < wr.heap.size := World.block_lt_of_cell? wr _ q0
    clear hx
    by_cases hn : x.i ≤ rec ∧ rec < x.o
    ·obtain ⟨n1, n2⟩ := hn
     have HF2 := Lib.hid (show R = (x.reel, ledP (pcOf x) rec, true) by rw [← HF.out, HD.out, if_pos ⟨n1, n2⟩])
     clear HF HD
     obtain ⟨q, hq⟩ : ∃ q, q = ledP (pcOf x) rec := ⟨_, rfl⟩
     have HS := Lib.hid (show ∀ W, Calls Tryz.prog 37 #[.agg #[.int .i64 x.num, .string (sB x.reel), .int .i64 x.src, .int .i64 x.i, .int .i64 x.o, .int .i64 x.sn, .int .i64 x.sd], .int .i64 rec] W fun e w' => e = .returned (.int .i64 q) ∧ Below W.heap.size W w' from fun W => by
      rw [hq]
      have := HX.out
      exact source_any x rec W this.sp (by omega) (by have h1 := this.o1; have h2 := this.i0; omega) this.i0 (by have h1 := this.io; have h2 := this.o1; omega) this.s0 (Int.le_of_lt this.s1))
     rw [← hq] at HF2
     clear hq
     go_wp2_with fail
     generalize hw5 : World.alloc wr _ = w5
     obtain ⟨X, hX⟩ : ∃ X, X = wr.heap.size := ⟨_, rfl⟩
     rw [← hX]
     have F5 := Lib.hid (show Held w5 X x.cs by subst hw5; exact Held.new hX)
     have B5 := Lib.hid (show Below w.heap.size w w5 by subst hw5; exact BW.out.alloc BW.out.size _)
     have R5 := Lib.hid (show Held w5 (G + 1) [.string (sB []), .int .i64 0] by subst hw5; exact RR.out.alloc _)
     clear hw5 hX q0 q1 q2 q3 q4 q5 q6
     obtain ⟨N, hN⟩ : ∃ N, N = w5.heap.size := ⟨_, rfl⟩
     have hXN : X < N := by have := F5.out.lt; omega
     have hRN : G + 1 < N := by have := R5.out.lt; omega
     have hBN := Lib.hid (show w.heap.size ≤ N by have := B5.out.size; omega)
     have HSZ := Lib.hid (show ∀ w', Below N w5 w' → N ≤ w'.heap.size from fun w' h => by have := h.size; omega)
     clear hN
     have e0 : w5.cell? ⟨X, 0, none⟩ = some (.int .i64 x.num) := F5.out.cell 0
     have e1 : w5.cell? ⟨X, 1, none⟩ = some (.string (sB x.reel)) := F5.out.cell 1
     have e2 : w5.cell? ⟨X, 2, none⟩ = some (.int .i64 x.src) := F5.out.cell 2
     have e3 : w5.cell? ⟨X, 3, none⟩ = some (.int .i64 x.i) := F5.out.cell 3
     have e4 : w5.cell? ⟨X, 4, none⟩ = some (.int .i64 x.o) := F5.out.cell 4
     have e5 : w5.cell? ⟨X, 5, none⟩ = some (.int .i64 x.sn) := F5.out.cell 5
     have e6 : w5.cell? ⟨X, 6, none⟩ = some (.int .i64 x.sd) := F5.out.cell 6
     refine wp_region_spec_tail 6 (by kernel_rfl) (fun w' => Below N w5 w') (PhiAt X G x rec q) 39 rfl (by kernel_rfl) (by kernel_rfl) (by kernel_rfl) (by kernel_rfl) (by kernel_rfl) (Below.refl _ _).drew ?hops ?hend
     case hops =>
      refine ⟨?o0, ?o1, ?o2, ?o3, ?o4, ?o5, trivial⟩
      case o0 =>
       intro ev w8 hI hdep hfree
       have a7 : ev 7 = .pointer (some ⟨X, 0, none⟩) := hfree 7 (by kernel_rfl)
       clear hdep hfree
       try dsimp only
       simp [OpRuns, execOp, evalOf, a7, go_sem]
       exact ⟨hI, rfl, trivial⟩
      case o1 =>
       intro ev w8 hI hdep hfree
       have a31 : ev 31 = .pointer (some ⟨X, 1, none⟩) := (hdep 0 31 (by kernel_rfl) (by kernel_rfl)).1
       have y0 : w8.cell? ⟨X, 1, none⟩ = some (.string (sB x.reel)) := (hI.cell (p := ⟨X, 1, none⟩) hXN).trans e1
       clear hdep hfree
       try dsimp only
       simp [OpRuns, execOp, evalOf, a31, y0, go_sem]
       exact ⟨hI, rfl, trivial⟩
      case o2 =>
       intro ev w8 hI hdep hfree
       have a7 : ev 7 = .pointer (some ⟨X, 0, none⟩) := hfree 7 (by kernel_rfl)
       have y0 : w8.cell? ⟨X, 0, none⟩ = some (.int .i64 x.num) := (hI.cell (p := ⟨X, 0, none⟩) hXN).trans e0
       have y1 : w8.cell? ⟨X, 1, none⟩ = some (.string (sB x.reel)) := (hI.cell (p := ⟨X, 1, none⟩) hXN).trans e1
       have y2 : w8.cell? ⟨X, 2, none⟩ = some (.int .i64 x.src) := (hI.cell (p := ⟨X, 2, none⟩) hXN).trans e2
       have y3 : w8.cell? ⟨X, 3, none⟩ = some (.int .i64 x.i) := (hI.cell (p := ⟨X, 3, none⟩) hXN).trans e3
       have y4 : w8.cell? ⟨X, 4, none⟩ = some (.int .i64 x.o) := (hI.cell (p := ⟨X, 4, none⟩) hXN).trans e4
       have y5 : w8.cell? ⟨X, 5, none⟩ = some (.int .i64 x.sn) := (hI.cell (p := ⟨X, 5, none⟩) hXN).trans e5
       have y6 : w8.cell? ⟨X, 6, none⟩ = some (.int .i64 x.sd) := (hI.cell (p := ⟨X, 6, none⟩) hXN).trans e6
       clear hdep hfree
       try dsimp only
       simp [OpRuns, execOp, evalOf, a7, y0, y1, y2, y3, y4, y5, y6, go_sem]
       exact ⟨hI, rfl, trivial⟩
      case o3 =>
       intro ev w8 hI hdep hfree
       have a1 : ev 1 = .int .i64 rec := hfree 1 (by kernel_rfl)
       clear hdep hfree
       try dsimp only
       simp [OpRuns, execOp, evalOf, a1, go_sem]
       exact ⟨hI, rfl, trivial⟩
      case o4 =>
       intro ev w8 hI hdep hfree
       have a33 : ev 33 = .agg #[.int .i64 x.num, .string (sB x.reel), .int .i64 x.src, .int .i64 x.i, .int .i64 x.o, .int .i64 x.sn, .int .i64 x.sd] := (hdep 2 33 (by kernel_rfl) (by kernel_rfl)).1
       have a34 : ev 34 = .int .i64 rec := (hdep 3 34 (by kernel_rfl) (by kernel_rfl)).1
       clear hdep hfree
       try dsimp only
       refine runs_call (f := 37) (args := #[.agg #[.int .i64 x.num, .string (sB x.reel), .int .i64 x.src, .int .i64 x.i, .int .i64 x.o, .int .i64 x.sn, .int .i64 x.sd], .int .i64 rec]) (by simp [execOp, evalOf, resolve, invoke, a33, a34, go_sem]) ((HS.out w8).mono ?_)
       rintro e w9 ⟨he, hb⟩
       exact ⟨_, he, hI.trans (hb.mono (HSZ.out w8 hI)), PhiAt.ext X G x rec q hb, fun d hd => by cases hd; exact ⟨rfl, trivial⟩⟩
      case o5 =>
       intro ev w8 hI hdep hfree
       have a32 : ev 32 = .string (sB x.reel) := (hdep 1 32 (by kernel_rfl) (by kernel_rfl)).1
       have a35 : ev 35 = .int .i64 q := (hdep 4 35 (by kernel_rfl) (by kernel_rfl)).1
       clear hdep hfree
       try dsimp only
       simp [OpRuns, execOp, evalOf, a32, a35, go_sem]
       exact ⟨hI, rfl, trivial⟩
     case hend =>
      intro a w6 hdf hsz hI hPhi hkept
      replace hdf : a.defers = [] := hdf
      replace hsz : a.tmps.size = 39 := hsz
      have x36 : a.tmps.getD 36 undef = .agg #[.string (sB x.reel), .int .i64 q] := (hPhi 5 36 (by omega) (by kernel_rfl)).1
      have x0 : a.tmps.getD 0 undef = Value.agg #[Value.string (sB d.title), Value.int IntKind.u8 d.rate, Value.bool d.drop, Value.slice (some { block := b, off := o }) d.cuts.length cp] := hkept 0 (kept_of (by kernel_rfl))
      have x1 : a.tmps.getD 1 undef = Value.int IntKind.i64 rec := hkept 1 (kept_of (by kernel_rfl))
      have x2 : a.tmps.getD 2 undef = Value.pointer (some { block := G, off := 0 }) := hkept 2 (kept_of (by kernel_rfl))
      have x3 : a.tmps.getD 3 undef = undef := hkept 3 (kept_of (by kernel_rfl))
      have x4 : a.tmps.getD 4 undef = Value.pointer (some { block := G + 1, off := 0 }) := hkept 4 (kept_of (by kernel_rfl))
      have x5 : a.tmps.getD 5 undef = u5 := hkept 5 (kept_of (by kernel_rfl))
      have x6 : a.tmps.getD 6 undef = undef := hkept 6 (kept_of (by kernel_rfl))
      have x7 : a.tmps.getD 7 undef = Value.pointer (some { block := X, off := 0 }) := hkept 7 (kept_of (by kernel_rfl))
      have x8 : a.tmps.getD 8 undef = Value.agg #[Value.string (sB d.title), Value.int IntKind.u8 d.rate, Value.bool d.drop, Value.slice (some { block := b, off := o }) d.cuts.length cp] := hkept 8 (kept_of (by kernel_rfl))
      have x9 : a.tmps.getD 9 undef = Value.int IntKind.i64 0 := hkept 9 (kept_of (by kernel_rfl))
      have x10 : a.tmps.getD 10 undef = Value.bool false := hkept 10 (kept_of (by kernel_rfl))
      have x11 : a.tmps.getD 11 undef = undef := hkept 11 (kept_of (by kernel_rfl))
      have x12 : a.tmps.getD 12 undef = Value.pointer (some { block := G, off := 3 }) := hkept 12 (kept_of (by kernel_rfl))
      have x13 : a.tmps.getD 13 undef = Value.slice (some { block := b, off := o }) d.cuts.length cp := hkept 13 (kept_of (by kernel_rfl))
      have x14 : a.tmps.getD 14 undef = Value.int IntKind.i64 (↑d.cuts.length : Int) := hkept 14 (kept_of (by kernel_rfl))
      have x15 : a.tmps.getD 15 undef = Value.int IntKind.i64 (↑k : Int) := hkept 15 (kept_of (by kernel_rfl))
      have x16 : a.tmps.getD 16 undef = Value.bool true := hkept 16 (kept_of (by kernel_rfl))
      have x17 : a.tmps.getD 17 undef = Value.pointer (some { block := b, off := o + k * 7 }) := hkept 17 (kept_of (by kernel_rfl))
      have x18 : a.tmps.getD 18 undef = Value.agg #[Value.int IntKind.i64 x.num, Value.string (sB x.reel), Value.int IntKind.i64 x.src, Value.int IntKind.i64 x.i, Value.int IntKind.i64 x.o, Value.int IntKind.i64 x.sn, Value.int IntKind.i64 x.sd] := hkept 18 (kept_of (by kernel_rfl))
      have x19 : a.tmps.getD 19 undef = Value.pointer (some { block := X, off := 3 }) := hkept 19 (kept_of (by kernel_rfl))
      have x20 : a.tmps.getD 20 undef = Value.pointer (some { block := X, off := 3 }) := hkept 20 (kept_of (by kernel_rfl))
      have x21 : a.tmps.getD 21 undef = Value.int IntKind.i64 x.i := hkept 21 (kept_of (by kernel_rfl))
      have x22 : a.tmps.getD 22 undef = Value.int IntKind.i64 rec := hkept 22 (kept_of (by kernel_rfl))
      have x23 : a.tmps.getD 23 undef = Value.bool true := hkept 23 (kept_of (by kernel_rfl))
      have x24 : a.tmps.getD 24 undef = Value.bool true := hkept 24 (kept_of (by kernel_rfl))
      have x25 : a.tmps.getD 25 undef = Value.int IntKind.i64 rec := hkept 25 (kept_of (by kernel_rfl))
      have x26 : a.tmps.getD 26 undef = Value.pointer (some { block := X, off := 3 }) := hkept 26 (kept_of (by kernel_rfl))
      have x27 : a.tmps.getD 27 undef = Value.pointer (some { block := X, off := 4 }) := hkept 27 (kept_of (by kernel_rfl))
      have x28 : a.tmps.getD 28 undef = Value.int IntKind.i64 x.o := hkept 28 (kept_of (by kernel_rfl))
      have x29 : a.tmps.getD 29 undef = Value.bool true := hkept 29 (kept_of (by kernel_rfl))
      have x30 : a.tmps.getD 30 undef = Value.bool true := hkept 30 (kept_of (by kernel_rfl))
      have x37 : a.tmps.getD 37 undef = u37 := hkept 37 (kept_of (by kernel_rfl))
      have x38 : a.tmps.getD 38 undef = undef := hkept 38 (kept_of (by kernel_rfl))
      have ea := act_lit hsz hdf
      simp only [getDs] at ea
      rw [x36, x0, x1, x2, x3, x4, x5, x6, x7, x8, x9, x10, x11, x12, x13, x14, x15, x16, x17, x18, x19, x20, x21, x22, x23, x24, x25, x26, x27, x28, x29, x30, x37, x38] at ea
      rw [ea]
      clear ea x36 x0 x1 x2 x3 x4 x5 x6 x7 x8 x9 x10 x11 x12 x13 x14 x15 x16 x17 x18 x19 x20 x21 x22 x23 x24 x25 x26 x27 x28 x29 x30 x37 x38 hPhi hkept hdf hsz
      generalize a.tmps.getD 31 undef = u31
      generalize a.tmps.getD 32 undef = u32
      generalize a.tmps.getD 33 undef = u33
      generalize a.tmps.getD 34 undef = u34
      generalize a.tmps.getD 35 undef = u35
      clear a
      have R6 := Lib.hid (R5.out.below hI hRN)
      have B6 := Lib.hid (show Below w.heap.size w w6 from B5.out.trans (hI.mono hBN.out))
      clear e0 e1 e2 e3 e4 e5 e6 hXN hRN hI R5 B5 F5
      have q := R6.out.cell
      have y := R6.out.free
      go_wp2_with (with_reducible refine stop_at ?_)
      unfold StopAt
      clear q y
      generalize hw3 : World.setCell _ _ _ = w3
      have H3 := Lib.hid (show Held w3 (G + 1) [.string (sB x.reel), .int .i64 q] by subst hw3; exact R6.out.all [.string (sB x.reel), .int .i64 q] rfl)
      have B3 := Lib.hid (show Below w.heap.size w w3 by subst hw3; exact Below.all (Nat.le_succ_of_le HG0.out) [.string (sB x.reel), .int .i64 q] 0 B6.out)
      have fr := H3.out.cell
      refine bodyPost_ret (by simp [results, Tryz.results12, fr, go_sem]; try rfl) rfl ?_
      rw [HF2.out]
      exact ⟨rfl, B3.out⟩
    ·have HF2 := Lib.hid (show atL rec (d.cuts.drop (k + 1)) = R by rw [← HF.out, HD.out, if_neg hn])
     clear HF HD
     by_cases n1 : x.i ≤ rec
     ·have n2 : ¬ rec < x.o := fun h => hn ⟨n1, h⟩
      clear hn
      go_wp2_with fail
      go_roundw
      case rel => exact ⟨k + 1, by omega, by go_num, HF2, Lib.hid (BR.out.alloc BR.out.size _)⟩
      case measure => simp [intOf]; omega
     ·clear hn
      go_wp2_with fail
      go_roundw
      case rel => exact ⟨k + 1, by omega, by go_num, HF2, Lib.hid (BR.out.alloc BR.out.size _)⟩
      case measure => simp [intOf]; omega
   ·obtain rfl : k = d.cuts.length := by omega
    have HF2 := Lib.hid (show R = ([], 0, false) by rw [← HF.out, List.drop_length]; rfl)
    clear hlt HF
    have q := RR.out.cell
    have y := RR.out.free
    go_wp2_with (with_reducible refine stop_at ?_)
    unfold StopAt
    clear q y
    generalize hw3 : World.setCell _ _ _ = w3
    have H3 := Lib.hid (show Held w3 (G + 1) [.string (sB []), .int .i64 0] by subst hw3; exact RR.out.all [.string (sB []), .int .i64 0] rfl)
    have B3 := Lib.hid (show Below w.heap.size w w3 by subst hw3; exact Below.all (Nat.le_succ_of_le HG0.out) [.string (sB []), .int .i64 0] 0 BW.out)
    have fr := H3.out.cell
    refine bodyPost_ret (by simp [results, Tryz.results12, fr, go_sem]; try rfl) rfl ?_
    rw [HF2.out]
    exact ⟨rfl, B3.out⟩
 ·have HA2 := Lib.hid (show R = ([], 0, false) by rw [HA.out, if_neg h0])
  have t0 : (L != 0) = true := by simpa using h0
  clear HA HG
  have q := R2.out.cell
  have y := R2.out.free
  go_wp2_with (with_reducible refine stop_at ?_)
  unfold StopAt
  clear q y
  generalize hw3 : World.setCell _ _ _ = w3
  have H3 := Lib.hid (show Held w3 (G + 1) [.string (sB []), .int .i64 0] by subst hw3; exact R2.out.all [.string (sB []), .int .i64 0] rfl)
  have B3 := Lib.hid (show Below w.heap.size w w3 by subst hw3; exact Below.all (Nat.le_succ_of_le HG0.out) [.string (sB []), .int .i64 0] 0 B2.out)
  have fr := H3.out.cell
  refine bodyPost_ret (by simp [results, Tryz.results12, fr, go_sem]; try rfl) rfl ?_
  rw [HA2.out]
  exact ⟨rfl, B3.out⟩
theorem infoSpn : (Tryz.prog.info? 29).map (fun i => (i.zero, i.size, i.bytes)) = some (some (.agg #[.int .i64 0, .int .i64 0]), 2, 16) := by kernel_rfl
set_option maxRecDepth 100000 in
set_option maxHeartbeats 8000000 in
theorem played_any (d : Lst) (c : Value) (nm : List UInt8) (w : World) (hd : CutsAt w c d.cuts) (ho : LsOk d) (hw : Wt w) :
  Calls Tryz.prog 13 #[d.v c, .string (sB nm)] w (RetP (plyG d nm) w) := by
 have HW := Lib.hid hw
 have HC := Lib.hid hd
 have HO := Lib.hid ho
 have hl := ho.cutl
 obtain ⟨A, cp, rfl⟩ := hd.form
 have HK := Lib.hid (fun W (hb : Below w.heap.size w W) => lcheck_any d _ W (HC.out.ext (Flat.stays _) hb) HO.out (HW.out.on hb))
 clear hw hd ho
 rw [show d.v (.slice A d.cuts.length cp) = .agg #[.string (sB d.title), .int .u8 d.rate, .bool d.drop, .slice A d.cuts.length cp] from rfl] at HK ⊢
 obtain ⟨G, hG⟩ : ∃ G, G = w.heap.size := ⟨_, rfl⟩
 obtain ⟨L, hL⟩ : ∃ L, L = lstE d := ⟨_, rfl⟩
 have HA := Lib.hid (show plyG d nm = if L = 0 then norS (plyL nm d.cuts) else ([], L) by rw [hL]; rfl)
 have HG := Lib.hid (fun (h : L = 0) => (lst_ok (hL.symm.trans h)).1)
 have HL := Lib.hid (fun (h : L = 0) => (lst_ok (hL.symm.trans h)).2)
 rw [← hL] at HK
 obtain ⟨R, hR⟩ : ∃ R, R = plyG d nm := ⟨_, rfl⟩
 rw [← hR] at HA ⊢
 clear hL hR
 obtain ⟨i0, hi, hz0, hz1, hz2⟩ := info_parts infoSpn
 have HI0 := Lib.hid (And.intro hi (And.intro hz0 (And.intro hz1 hz2)))
 clear hi hz0 hz1 hz2
 unfold RetP
 go_enter Tryz.func13, Tryz.ntmps13
 go_wp2_with fail
 rw [← hG]
 generalize hw1 : World.alloc w _ = w1
 have F1 := Lib.hid (show Held w1 G (d.cs (.slice A d.cuts.length cp)) by subst hw1; exact Held.new hG)
 have B1 := Lib.hid (show Below G w w1 by subst hw1; rw [hG]; exact Below.more' _ _)
 have HGe := Lib.hid hG
 clear hw1 hG
 refine (HK.out w1 (HGe.out ▸ B1.out)).mono ?_
 rintro e w2 ⟨rfl, hb⟩
 have hG1 : G < w1.heap.size := F1.out.lt
 have B2 := Lib.hid (B1.out.trans (hb.mono (Nat.le_of_lt hG1)))
 have F2 := Lib.hid (F1.out.ext hb)
 clear hb F1 B1 HK hG1
 have fq := F2.out.cell
 have hG2 := F2.out.lt
 unfold Lst.cs at fq
 by_cases h0 : L = 0
 ·subst h0
  have HA2 := Lib.hid (show R = norS (plyL nm d.cuts) by rw [HA.out, if_pos rfl])
  have HG2 := Lib.hid (HG.out rfl)
  have hl64 := HL.out rfl
  clear HA HG HL
  go_wp2_with fail
  clear fq
  obtain ⟨E, hE⟩ : ∃ E, E = w2.heap.size := ⟨_, rfl⟩
  have HE := Lib.hid hE
  have hGE : G < E := by omega
  clear hE
  go_loopw [7, 18] (fun ov i wr => ∃ (k : Nat) (uv : Value), uv = ov ∧ k ≤ d.cuts.length ∧ i = .int .i64 k ∧ Hid (wr.ownsRow E 29 2 uv (plyL nm (d.cuts.take k)).length ((plyL nm (d.cuts.take k)).flatMap spV)) ∧ Hid (Below E w2 wr)) (fun _ i _ => d.cuts.length - (intOf i).toNat)
  case atStart => exact ⟨0, _, rfl, Nat.zero_le _, rfl, Lib.hid (World.ownsRow_nil _ _ _ _), Lib.hid (Below.refl _ _)⟩
  case round =>
   obtain ⟨k, uv, rfl, hk, rfl, HOW, BR⟩ := hrel
   have hEw : E ≤ wr.heap.size := by have := BR.out.size; have := HE.out; omega
   have BW := Lib.hid (show Below G w wr from B2.out.trans (BR.out.mono (Nat.le_of_lt hGE)))
   by_cases hlt : k < d.cuts.length
   ·have hlt2 : (k : Int) < (d.cuts.length : Int) := by omega
    obtain ⟨x, hx⟩ : ∃ x, d.cuts[k]? = some x := ⟨_, List.getElem?_eq_getElem hlt⟩
    have HST := Lib.hid (ply_step (nm := nm) hx)
    have HX := Lib.hid (HG2.out.cut x (List.mem_of_getElem? hx))
    obtain ⟨b, o, rfl, q0, q1, q2, q3, q4, q5, q6⟩ := CutsAt.get (HC.out.ext (Flat.stays _) (HGe.out ▸ BW.out)) hx
    have hbr : b < wr.heap.size := World.block_lt_of_cell? wr _ q0
    have hml : (plyL nm (d.cuts.take k)).length ≤ 64 := by have := ply_len nm (d.cuts.take k); rw [List.length_take] at this; omega
    generalize plyL nm (d.cuts.take k) = M at *
    clear hx
    by_cases hn : x.reel = nm
    ·have HST2 := Lib.hid (show plyL nm (d.cuts.take (k + 1)) = M ++ [⟨x.src, lastV x + 1⟩] by rw [HST.out, if_pos hn])
     have t1 : ((sB x.reel).toList == (sB nm).toList) = true := by rw [str_eq]; simpa using hn
     clear HST hn
     obtain ⟨q, hq⟩ : ∃ q, q = lastV x := ⟨_, rfl⟩
     have hqb : 0 ≤ q ∧ q < 5184000 := by
      have h1 := HX.out
      have h2 := led_bd h1 (rec := x.o - 1) (by have := h1.io; omega) (by omega)
      rw [hq]
      have := h1.la
      have := h1.s0
      unfold lastV at *
      omega
     have HS := Lib.hid (show ∀ W, Calls Tryz.prog 37 #[.agg #[.int .i64 x.num, .string (sB x.reel), .int .i64 x.src, .int .i64 x.i, .int .i64 x.o, .int .i64 x.sn, .int .i64 x.sd], .int .i64 (x.o - 1)] W fun e w' => e = .returned (.int .i64 q) ∧ Below W.heap.size W w' from fun W => by
      rw [hq]
      have := HX.out
      exact source_any x (x.o - 1) W this.sp (by have := this.io; omega) (by have h1 := this.o1; have h2 := this.i0; omega) this.i0 (by have h1 := this.io; have h2 := this.o1; omega) this.s0 (Int.le_of_lt this.s1))
     rw [← hq] at HST2
     have hob : 0 < x.o ∧ x.o ≤ 5184000 := by have := HX.out; have h1 := this.i0; have h2 := this.io; have h3 := this.o1; omega
     have q1' : IntKind.i64.wrap (x.o - 1) = x.o - 1 := by rw [IntKind.wrap_i64]; omega
     have q2' : IntKind.i64.wrap (q + 1) = q + 1 := by rw [IntKind.wrap_i64]; omega
     have WX := Lib.hid (And.intro q1' q2')
     have HB := Lib.hid (And.intro hob hqb)
     clear hq hob hqb q1' q2'
     go_wp2_with fail
     generalize hw5 : World.alloc wr _ = w5
     obtain ⟨X, hX⟩ : ∃ X, X = wr.heap.size := ⟨_, rfl⟩
     rw [← hX]
     have F5 := Lib.hid (show Held w5 X x.cs by subst hw5; exact Held.new hX)
     have B5 := Lib.hid (show Below E w2 w5 by subst hw5; exact BR.out.alloc hEw _)
     have HO5 := Lib.hid (show w5.ownsRow E 29 2 uv M.length (M.flatMap spV) by subst hw5; exact HOW.out.alloc _)
     clear hw5 hX q0 q1 q2 q3 q4 q5 q6 t1
     obtain ⟨N, hN⟩ : ∃ N, N = w5.heap.size := ⟨_, rfl⟩
     have HN := Lib.hid hN
     have hXN : X < N := by have := F5.out.lt; omega
     have hEN : E ≤ N := by have := B5.out.size; have := HE.out; omega
     have HSZ := Lib.hid (show ∀ w', Below N w5 w' → N ≤ w'.heap.size from fun w' h => by have := h.size; omega)
     clear hN
     have q1' : IntKind.i64.wrap (x.o - 1) = x.o - 1 := WX.out.1
     have q2' : IntKind.i64.wrap (q + 1) = q + 1 := WX.out.2
     have e0 : w5.cell? ⟨X, 0, none⟩ = some (.int .i64 x.num) := F5.out.cell 0
     have e1 : w5.cell? ⟨X, 1, none⟩ = some (.string (sB x.reel)) := F5.out.cell 1
     have e2 : w5.cell? ⟨X, 2, none⟩ = some (.int .i64 x.src) := F5.out.cell 2
     have e3 : w5.cell? ⟨X, 3, none⟩ = some (.int .i64 x.i) := F5.out.cell 3
     have e4 : w5.cell? ⟨X, 4, none⟩ = some (.int .i64 x.o) := F5.out.cell 4
     have e5 : w5.cell? ⟨X, 5, none⟩ = some (.int .i64 x.sn) := F5.out.cell 5
     have e6 : w5.cell? ⟨X, 6, none⟩ = some (.int .i64 x.sd) := F5.out.cell 6
     refine wp_region_spec_tail 12 (by kernel_rfl) (fun w' => Below N w5 w') (PhiPl X N x q uv) 44 rfl (by kernel_rfl) (by kernel_rfl) (by kernel_rfl) (by kernel_rfl) (by kernel_rfl) (Below.refl _ _).drew ?hops ?hend
     case hops =>
      refine ⟨?o0, ?o1, ?o2, ?o3, ?o4, ?o5, ?o6, ?o7, ?o8, ?o9, ?o10, ?o11, trivial⟩
      case o0 =>
       intro ev w8 hI hdep hfree
       have a7 : ev 7 = uv := hfree 7 (by kernel_rfl)
       clear hdep hfree
       try dsimp only
       simp [OpRuns, execOp, evalOf, a7, go_sem]
       exact ⟨hI, rfl, fun e => absurd e (by decide)⟩
      case o1 =>
       intro ev w8 hI hdep hfree
       have a9 : ev 9 = .pointer (some ⟨X, 0, none⟩) := hfree 9 (by kernel_rfl)
       clear hdep hfree
       try dsimp only
       simp [OpRuns, execOp, evalOf, a9, go_sem]
       exact ⟨hI, rfl, fun e => absurd e (by decide)⟩
      case o2 =>
       intro ev w8 hI hdep hfree
       have a27 : ev 27 = .pointer (some ⟨X, 2, none⟩) := (hdep 1 27 (by kernel_rfl) (by kernel_rfl)).1
       have y0 : w8.cell? ⟨X, 2, none⟩ = some (.int .i64 x.src) := (hI.cell (p := ⟨X, 2, none⟩) hXN).trans e2
       clear hdep hfree
       try dsimp only
       simp [OpRuns, execOp, evalOf, a27, y0, go_sem]
       exact ⟨hI, rfl, fun e => absurd e (by decide)⟩
      case o3 =>
       intro ev w8 hI hdep hfree
       have a9 : ev 9 = .pointer (some ⟨X, 0, none⟩) := hfree 9 (by kernel_rfl)
       have y0 : w8.cell? ⟨X, 0, none⟩ = some (.int .i64 x.num) := (hI.cell (p := ⟨X, 0, none⟩) hXN).trans e0
       have y1 : w8.cell? ⟨X, 1, none⟩ = some (.string (sB x.reel)) := (hI.cell (p := ⟨X, 1, none⟩) hXN).trans e1
       have y2 : w8.cell? ⟨X, 2, none⟩ = some (.int .i64 x.src) := (hI.cell (p := ⟨X, 2, none⟩) hXN).trans e2
       have y3 : w8.cell? ⟨X, 3, none⟩ = some (.int .i64 x.i) := (hI.cell (p := ⟨X, 3, none⟩) hXN).trans e3
       have y4 : w8.cell? ⟨X, 4, none⟩ = some (.int .i64 x.o) := (hI.cell (p := ⟨X, 4, none⟩) hXN).trans e4
       have y5 : w8.cell? ⟨X, 5, none⟩ = some (.int .i64 x.sn) := (hI.cell (p := ⟨X, 5, none⟩) hXN).trans e5
       have y6 : w8.cell? ⟨X, 6, none⟩ = some (.int .i64 x.sd) := (hI.cell (p := ⟨X, 6, none⟩) hXN).trans e6
       clear hdep hfree
       try dsimp only
       simp [OpRuns, execOp, evalOf, a9, y0, y1, y2, y3, y4, y5, y6, go_sem]
       exact ⟨hI, rfl, fun e => absurd e (by decide)⟩
      case o4 =>
       intro ev w8 hI hdep hfree
       have a9 : ev 9 = .pointer (some ⟨X, 0, none⟩) := hfree 9 (by kernel_rfl)
       clear hdep hfree
       try dsimp only
       simp [OpRuns, execOp, evalOf, a9, go_sem]
       exact ⟨hI, rfl, fun e => absurd e (by decide)⟩
      case o5 =>
       intro ev w8 hI hdep hfree
       have a30 : ev 30 = .pointer (some ⟨X, 3, none⟩) := (hdep 4 30 (by kernel_rfl) (by kernel_rfl)).1
       clear hdep hfree
       try dsimp only
       simp [OpRuns, execOp, evalOf, a30, go_sem]
       exact ⟨hI, rfl, fun e => absurd e (by decide)⟩
      case o6 =>
       intro ev w8 hI hdep hfree
       have a31 : ev 31 = .pointer (some ⟨X, 4, none⟩) := (hdep 5 31 (by kernel_rfl) (by kernel_rfl)).1
       have y0 : w8.cell? ⟨X, 4, none⟩ = some (.int .i64 x.o) := (hI.cell (p := ⟨X, 4, none⟩) hXN).trans e4
       clear hdep hfree
       try dsimp only
       simp [OpRuns, execOp, evalOf, a31, y0, go_sem]
       exact ⟨hI, rfl, fun e => absurd e (by decide)⟩
      case o7 =>
       intro ev w8 hI hdep hfree
       have a32 : ev 32 = .int .i64 x.o := (hdep 6 32 (by kernel_rfl) (by kernel_rfl)).1
       clear hdep hfree
       try dsimp only
       simp [OpRuns, execOp, evalOf, a32, q1', go_sem]
       exact ⟨hI, rfl, fun e => absurd e (by decide)⟩
      case o8 =>
       intro ev w8 hI hdep hfree
       have a29 : ev 29 = .agg #[.int .i64 x.num, .string (sB x.reel), .int .i64 x.src, .int .i64 x.i, .int .i64 x.o, .int .i64 x.sn, .int .i64 x.sd] := (hdep 3 29 (by kernel_rfl) (by kernel_rfl)).1
       have a33 : ev 33 = .int .i64 (x.o - 1) := (hdep 7 33 (by kernel_rfl) (by kernel_rfl)).1
       clear hdep hfree
       try dsimp only
       refine runs_call (f := 37) (args := #[.agg #[.int .i64 x.num, .string (sB x.reel), .int .i64 x.src, .int .i64 x.i, .int .i64 x.o, .int .i64 x.sn, .int .i64 x.sd], .int .i64 (x.o - 1)]) (by simp [execOp, evalOf, resolve, invoke, a29, a33, go_sem]) ((HS.out w8).mono ?_)
       rintro e w9 ⟨he, hb⟩
       exact ⟨_, he, hI.trans (hb.mono (HSZ.out w8 hI)), PhiPl.ext X N x q uv hb, fun d hd => by cases hd; exact ⟨rfl, fun e => absurd e (by decide)⟩⟩
      case o9 =>
       intro ev w8 hI hdep hfree
       have a34 : ev 34 = .int .i64 q := (hdep 8 34 (by kernel_rfl) (by kernel_rfl)).1
       clear hdep hfree
       try dsimp only
       simp [OpRuns, execOp, evalOf, a34, q2', go_sem]
       exact ⟨hI, rfl, fun e => absurd e (by decide)⟩
      case o10 =>
       intro ev w8 hI hdep hfree
       have a28 : ev 28 = .int .i64 x.src := (hdep 2 28 (by kernel_rfl) (by kernel_rfl)).1
       have a35 : ev 35 = .int .i64 (q + 1) := (hdep 9 35 (by kernel_rfl) (by kernel_rfl)).1
       clear hdep hfree
       try dsimp only
       simp [OpRuns, execOp, evalOf, a28, a35, go_sem]
       exact ⟨hI, rfl, fun e => absurd e (by decide)⟩
      case o11 =>
       intro ev w8 hI hdep hfree
       have a36 : ev 36 = .agg #[.int .i64 x.src, .int .i64 (q + 1)] := (hdep 10 36 (by kernel_rfl) (by kernel_rfl)).1
       clear hdep hfree
       try dsimp only
       simp [OpRuns, execOp, evalOf, a36, go_sem]
       exact ⟨hI.alloc (HSZ.out w8 hI) _, PhiPl.ext X N x q uv (Below.more' _ _), trivial, fun e => ⟨_, rfl, HSZ.out w8 hI, Held.new rfl⟩⟩
     case hend =>
      intro a w6 hdf hsz hI hPhi hkept
      replace hdf : a.defers = [] := hdf
      replace hsz : a.tmps.size = 44 := hsz
      have x26 : a.tmps.getD 26 undef = uv := (hPhi 0 26 (by omega) (by kernel_rfl)).1
      obtain ⟨h37, x37, hE37, hr37⟩ := (hPhi 11 37 (by omega) (by kernel_rfl)).2 rfl
      have x0 : a.tmps.getD 0 undef = Value.agg #[Value.string (sB d.title), Value.int IntKind.u8 d.rate, Value.bool d.drop, Value.slice (some { block := b, off := o }) d.cuts.length cp] := hkept 0 (kept_of (by kernel_rfl))
      have x1 : a.tmps.getD 1 undef = Value.string (sB nm) := hkept 1 (kept_of (by kernel_rfl))
      have x2 : a.tmps.getD 2 undef = Value.pointer (some { block := G, off := 0 }) := hkept 2 (kept_of (by kernel_rfl))
      have x3 : a.tmps.getD 3 undef = undef := hkept 3 (kept_of (by kernel_rfl))
      have x4 : a.tmps.getD 4 undef = Value.slice none 0 0 := hkept 4 (kept_of (by kernel_rfl))
      have x5 : a.tmps.getD 5 undef = Value.int IntKind.i64 0 := hkept 5 (kept_of (by kernel_rfl))
      have x6 : a.tmps.getD 6 undef = Value.int IntKind.i64 0 := hkept 6 (kept_of (by kernel_rfl))
      have x7 : a.tmps.getD 7 undef = uv := hkept 7 (kept_of (by kernel_rfl))
      have x8 : a.tmps.getD 8 undef = undef := hkept 8 (kept_of (by kernel_rfl))
      have x9 : a.tmps.getD 9 undef = Value.pointer (some { block := X, off := 0 }) := hkept 9 (kept_of (by kernel_rfl))
      have x10 : a.tmps.getD 10 undef = Value.agg #[Value.string (sB d.title), Value.int IntKind.u8 d.rate, Value.bool d.drop, Value.slice (some { block := b, off := o }) d.cuts.length cp] := hkept 10 (kept_of (by kernel_rfl))
      have x11 : a.tmps.getD 11 undef = Value.int IntKind.i64 0 := hkept 11 (kept_of (by kernel_rfl))
      have x12 : a.tmps.getD 12 undef = Value.int IntKind.i64 0 := hkept 12 (kept_of (by kernel_rfl))
      have x13 : a.tmps.getD 13 undef = Value.bool false := hkept 13 (kept_of (by kernel_rfl))
      have x14 : a.tmps.getD 14 undef = undef := hkept 14 (kept_of (by kernel_rfl))
      have x15 : a.tmps.getD 15 undef = Value.pointer (some { block := G, off := 3 }) := hkept 15 (kept_of (by kernel_rfl))
      have x16 : a.tmps.getD 16 undef = Value.slice (some { block := b, off := o }) d.cuts.length cp := hkept 16 (kept_of (by kernel_rfl))
      have x17 : a.tmps.getD 17 undef = Value.int IntKind.i64 (↑d.cuts.length : Int) := hkept 17 (kept_of (by kernel_rfl))
      have x18 : a.tmps.getD 18 undef = Value.int IntKind.i64 (↑k : Int) := hkept 18 (kept_of (by kernel_rfl))
      have x19 : a.tmps.getD 19 undef = Value.bool true := hkept 19 (kept_of (by kernel_rfl))
      have x20 : a.tmps.getD 20 undef = Value.pointer (some { block := b, off := o + k * 7 }) := hkept 20 (kept_of (by kernel_rfl))
      have x21 : a.tmps.getD 21 undef = Value.agg #[Value.int IntKind.i64 x.num, Value.string (sB x.reel), Value.int IntKind.i64 x.src, Value.int IntKind.i64 x.i, Value.int IntKind.i64 x.o, Value.int IntKind.i64 x.sn, Value.int IntKind.i64 x.sd] := hkept 21 (kept_of (by kernel_rfl))
      have x22 : a.tmps.getD 22 undef = Value.pointer (some { block := X, off := 1 }) := hkept 22 (kept_of (by kernel_rfl))
      have x23 : a.tmps.getD 23 undef = Value.string (sB x.reel) := hkept 23 (kept_of (by kernel_rfl))
      have x24 : a.tmps.getD 24 undef = Value.string (sB nm) := hkept 24 (kept_of (by kernel_rfl))
      have x25 : a.tmps.getD 25 undef = Value.bool true := hkept 25 (kept_of (by kernel_rfl))
      have x38 : a.tmps.getD 38 undef = u38 := hkept 38 (kept_of (by kernel_rfl))
      have x39 : a.tmps.getD 39 undef = u39 := hkept 39 (kept_of (by kernel_rfl))
      have x40 : a.tmps.getD 40 undef = undef := hkept 40 (kept_of (by kernel_rfl))
      have x41 : a.tmps.getD 41 undef = undef := hkept 41 (kept_of (by kernel_rfl))
      have x42 : a.tmps.getD 42 undef = undef := hkept 42 (kept_of (by kernel_rfl))
      have x43 : a.tmps.getD 43 undef = undef := hkept 43 (kept_of (by kernel_rfl))
      have ea := act_lit hsz hdf
      simp only [getDs] at ea
      rw [x26, x37, x0, x1, x2, x3, x4, x5, x6, x7, x8, x9, x10, x11, x12, x13, x14, x15, x16, x17, x18, x19, x20, x21, x22, x23, x24, x25, x38, x39, x40, x41, x42, x43] at ea
      rw [ea]
      clear ea x26 x37 x0 x1 x2 x3 x4 x5 x6 x7 x8 x9 x10 x11 x12 x13 x14 x15 x16 x17 x18 x19 x20 x21 x22 x23 x24 x25 x38 x39 x40 x41 x42 x43 hPhi hkept hdf hsz
      generalize a.tmps.getD 27 undef = u27
      generalize a.tmps.getD 28 undef = u28
      generalize a.tmps.getD 29 undef = u29
      generalize a.tmps.getD 30 undef = u30
      generalize a.tmps.getD 31 undef = u31
      generalize a.tmps.getD 32 undef = u32
      generalize a.tmps.getD 33 undef = u33
      generalize a.tmps.getD 34 undef = u34
      generalize a.tmps.getD 35 undef = u35
      generalize a.tmps.getD 36 undef = u36
      clear a
      have B6 := Lib.hid (show Below E w2 w6 from B5.out.trans (hI.mono hEN))
      have HO6 := Lib.hid (show w6.ownsRow E 29 2 uv M.length (M.flatMap spV) from own_ext HO5.out (HN.out ▸ hI))
      have F6 := Lib.hid hr37
      have hE6 : E ≤ w6.heap.size := by have := B6.out.size; have := HE.out; omega
      clear e0 e1 e2 e3 e4 e5 e6 hXN hI B5 F5 HO5 q1' q2' hE37 hr37
      have zc := CellsAt.of_all (w := w6) (g := h37) (k := 0) (l := [.int .i64 x.src, .int .i64 (q + 1)]) (fun j u hu => by rw [Addr.add_lit, Nat.zero_add, F6.out.cell]; exact hu)
      have ZC := Lib.hid zc
      clear zc
      go_loud (refine wpList_append_own _ rfl _ _ 60 rfl E 29 i0 (.agg #[.int .i64 0, .int .i64 0]) 2 16 Tryz.underlying60 HI0.out.1 HI0.out.2.1 HI0.out.2.2.1 HI0.out.2.2.2 rfl (by decide) _ M.length _ rfl HO6.out ⟨h37, 0, none⟩ 1 1 [.int .i64 x.src, .int .i64 (q + 1)] rfl rfl (CellsAt.all ZC.out) (by simp [Value.oneCell']) (by simp only [maxLen]; omega) (by omega) hE6 ?_)
      intro v7 w7 ho7 hgr7 _
      have HO7 := Lib.hid (show w7.ownsRow E 29 2 v7 (plyL nm (d.cuts.take (k + 1))).length ((plyL nm (d.cuts.take (k + 1))).flatMap spV) by
       rw [HST2.out, List.flatMap_append, List.length_append]
       exact ho7)
      have B7 := Lib.hid (show Below E w2 w7 from B6.out.grown hgr7 hE6 (own_base HO6.out))
      clear ho7 hgr7 HO6 B6 F6 ZC
      go_wp2_with fail
      go_roundw
      case rel => exact ⟨k + 1, _, rfl, by omega, by go_num, HO7, B7⟩
      case measure => simp [intOf]; omega
    ·have HST2 := Lib.hid (show plyL nm (d.cuts.take (k + 1)) = M by rw [HST.out, if_neg hn, List.append_nil])
     have t1 : ((sB x.reel).toList == (sB nm).toList) = false := by rw [str_eq]; simpa using hn
     clear HST hn
     go_wp2_with fail
     go_roundw
     case rel => exact ⟨k + 1, _, rfl, by omega, by go_num, Lib.hid (by rw [HST2.out]; exact HOW.out.alloc _), Lib.hid (BR.out.alloc hEw _)⟩
     case measure => simp [intOf]; omega
   ·obtain rfl : k = d.cuts.length := by omega
    rw [List.take_length] at HOW
    have hml : (plyL nm d.cuts).length ≤ 64 := by have := ply_len nm d.cuts; omega
    generalize plyL nm d.cuts = M at *
    obtain ⟨A3, c3, e3, hr3, _⟩ := row_of_ownK HOW.out
    subst e3
    have HR3 := Lib.hid hr3
    clear hlt hr3
    go_wp2_with fail
    refine (norm_any A3 c3 M wr HR3.out (by omega)).mono ?_
    unfold RetP
    rintro e w3 ⟨⟨v, rfl, ho⟩, hb⟩
    have HO3 := Lib.hid (ownsRow_mono ho (show w.heap.size ≤ wr.heap.size by have := BW.out.size; omega))
    have B3 := Lib.hid (show Below w.heap.size w w3 from HGe.out ▸ BW.out.trans (hb.mono (by have := BW.out.size; have := HGe.out; omega)))
    clear ho hb
    go_wp2_with fail
    go_ret2
    rw [HA2.out]
    exact ⟨⟨v, rfl, HO3.out⟩, B3.out⟩
 ·have HA2 := Lib.hid (show R = ([], L) by rw [HA.out, if_neg h0])
  have t0 : (L != 0) = true := by simpa using h0
  clear HA HG
  go_wp2_with fail
  go_ret2
  rw [HA2.out]
  exact ⟨⟨_, rfl, World.ownsRow_nil _ _ _ _⟩, HGe.out ▸ B2.out⟩
end Go.Proofs.YtmopjhbfobmklaaGreatDoor
