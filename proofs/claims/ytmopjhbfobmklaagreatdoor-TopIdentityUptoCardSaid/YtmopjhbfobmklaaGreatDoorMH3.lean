/-
  The contracts of source, At and Played of reel. Their conditions are their hypotheses.
-/
import Derived.Test.YtmopjhbfobmklaaGreatDoorMCx
import Derived.Test.YtmopjhbfobmklaaGreatDoorMH0
import Derived.Test.YtmopjhbfobmklaaGreatDoorMBi
set_option maxRecDepth 100000
set_option maxHeartbeats 40000000
namespace Go.Proofs.YtmopjhbfobmklaaGreatDoor
open Go.RowKit Go.Joins
set_option linter.unusedVariables false
set_option linter.unusedSimpArgs false
theorem source_any (c : Ct) (rec : Int) (w : World) (h : spdB (pcOf c) = true) (h1 : 0 ≤ rec - c.i) (h2 : rec - c.i ≤ 5184000) (h3 : 0 ≤ c.i) (h3' : c.i ≤ 5184000) (h4 : 0 ≤ c.src) (h5 : c.src ≤ 5184000) :
  Calls Tryz.prog 37 #[c.v, .int .i64 rec] w fun e w' => e = .returned (.int .i64 (ledP (pcOf c) rec)) ∧ Below w.heap.size w w' := by
 obtain ⟨k1, k2, k3, k4, _⟩ := spd_bd h
 obtain ⟨num, reel, src, i, o, n, d⟩ := c
 simp only [pcOf] at h1 h2 h3 h3' h4 h5 k1 k2 k3 k4
 obtain ⟨K, hK⟩ : ∃ K, K = (rec - i) * n := ⟨_, rfl⟩
 obtain ⟨b1, b2⟩ := prod_in k1 k2 (show 0 ≤ rec - i by omega) (by omega)
 rw [← hK] at b1 b2
 have hq := quot_floor b1 b2 k3
 have hl : ledP (pcOf ⟨num, reel, src, i, o, n, d⟩) rec = src + K / d := by rw [hK]; rfl
 have b3 := Int.ediv_nonneg b1 (show 0 ≤ d by omega)
 have b4 := Int.ediv_le_self d b1
 rw [hl]
 have HQ := ι (fun W : World => Q.quotient_any K d 1 W (by omega) (by omega) (by omega) (by omega))
 rw [hq] at HQ
 obtain ⟨q, hqd⟩ : ∃ q, q = K / d := ⟨_, rfl⟩
 rw [← hqd] at HQ b3 b4 ⊢
 have b5 : q ≤ 160000000000 := by omega
 have wK : wrap64 ((rec - i) * n) = K := by rw [← hK]; go_arith
 have WK := ι wK
 clear hK hq hl hqd b1 b2 b4 h wK
 obtain ⟨D, hD⟩ : ∃ D, D = w.heap.size := ⟨_, rfl⟩
 have HD := ι hD
 rw [← hD]
 clear hD
 rw [show Ct.v ⟨num, reel, src, i, o, n, d⟩ = .agg #[.int .i64 num, .string (sB reel), .int .i64 src, .int .i64 i, .int .i64 o, .int .i64 n, .int .i64 d] from rfl]
 go_enter Tryz.func37, Tryz.ntmps37
 go_wp2_with fail
 rw [WK.out]
 rw [← HD.out]
 generalize hw1 : World.alloc w _ = w1
 have F1 := ι (show Held w1 D (Ct.cs ⟨num, reel, src, i, o, n, d⟩) by subst hw1; exact Held.new HD.out)
 have G1 := ι (show Below D w w1 by subst hw1; rw [HD.out]; exact Below.more' _ _)
 clear hw1
 refine (HQ.out w1).mono ?_
 rintro e w2 ⟨rfl, kk, rfl⟩
 have F2 := ι (F1.out.drewN kk)
 have G2 := ι (below_drewN G1.out kk)
 generalize w1.drewN kk = w2 at *
 have fq := F2.out.cell
 have hG2 := F2.out.lt
 unfold Ct.cs at fq
 go_wp2_with fail
 go_ret
 exact ⟨rfl, G2.out⟩
theorem led_bd {x : Ct} (h : CutG x) {rec : Int} (h1 : x.i ≤ rec) (h2 : rec < x.o) : x.src ≤ ledP (pcOf x) rec ∧ ledP (pcOf x) rec ≤ lastV x := by
 obtain ⟨k1, k2, k3, k4, _⟩ := spd_bd h.sp
 simp only [pcOf] at k1 k2 k3 k4
 unfold lastV ledP pcOf
 simp only []
 have a1 : 0 ≤ (rec - x.i) * x.sn := Int.mul_nonneg (by omega) k1
 have a2 : (rec - x.i) * x.sn ≤ (x.o - 1 - x.i) * x.sn := Int.mul_le_mul_of_nonneg_right (by omega) k1
 have a3 := Int.ediv_nonneg a1 (show 0 ≤ x.sd by omega)
 have a4 := Int.ediv_le_ediv (show 0 < x.sd by omega) a2
 omega
def PhiAtY (X G : Nat) (x : Ct) (rec q : Int) : Nat → Value → Prop
 | 31, v => v = .pointer (some ⟨X, 1, none⟩)
 | 32, v => v = .string (sB x.reel)
 | 33, v => v = .agg #[.int .i64 x.num, .string (sB x.reel), .int .i64 x.src, .int .i64 x.i, .int .i64 x.o, .int .i64 x.sn, .int .i64 x.sd]
 | 34, v => v = .int .i64 rec
 | 35, v => v = .int .i64 q
 | 36, v => v = .agg #[.string (sB x.reel), .int .i64 q]
 | _, _ => True
def PhiAt (X G : Nat) (x : Ct) (rec q : Int) (sl : Nat) (v : Value) (w : World) : Prop := PhiAtY X G x rec q sl v ∧ True
theorem PhiAt.ext (X G : Nat) (x : Ct) (rec q : Int) {w w' : World} (hb : Below w.heap.size w w') : ∀ sl v, PhiAt X G x rec q sl v w → PhiAt X G x rec q sl v w' := fun sl v h => ⟨h.1, h.2⟩
def PhiPlY (X N : Nat) (x : Ct) (q : Int) (uv : Value) : Nat → Value → Prop
 | 26, v => v = uv
 | 27, v => v = .pointer (some ⟨X, 2, none⟩)
 | 28, v => v = .int .i64 x.src
 | 29, v => v = .agg #[.int .i64 x.num, .string (sB x.reel), .int .i64 x.src, .int .i64 x.i, .int .i64 x.o, .int .i64 x.sn, .int .i64 x.sd]
 | 30, v => v = .pointer (some ⟨X, 3, none⟩)
 | 31, v => v = .pointer (some ⟨X, 4, none⟩)
 | 32, v => v = .int .i64 x.o
 | 33, v => v = .int .i64 (x.o - 1)
 | 34, v => v = .int .i64 q
 | 35, v => v = .int .i64 (q + 1)
 | 36, v => v = .agg #[.int .i64 x.src, .int .i64 (q + 1)]
 | _, _ => True
def PhiPl (X N : Nat) (x : Ct) (q : Int) (uv : Value) (sl : Nat) (v : Value) (w : World) : Prop := PhiPlY X N x q uv sl v ∧ (sl = 37 → (fun v w => ∃ h, v = .slice (some ⟨h, 0, none⟩) 1 1 ∧ N ≤ h ∧ Held w h [.int .i64 x.src, .int .i64 (q + 1)]) v w)
theorem PhiPl.ext (X N : Nat) (x : Ct) (q : Int) (uv : Value) {w w' : World} (hb : Below w.heap.size w w') : ∀ sl v, PhiPl X N x q uv sl v w → PhiPl X N x q uv sl v w' := fun sl v h => ⟨h.1, fun e => (fun q hb => let ⟨h1, h2, h3, h4⟩ := q; ⟨h1, h2, h3, h4.ext hb⟩) (h.2 e) hb⟩
theorem infoSpn : (Tryz.prog.info? 29).map (fun i => (i.zero, i.size, i.bytes)) = some (some (.agg #[.int .i64 0, .int .i64 0]), 2, 16) := by kernel_rfl
theorem played_any (d : Lst) (c : Value) (nm : List UInt8) (w : World) (hd : CutsAt w c d.cuts) (ho : LsOk d) (hw : Wt w) :
  Calls Tryz.prog 13 #[d.v c, .string (sB nm)] w (RetP (plyG d nm) w) := by
 have HW := ι hw
 have HC := ι hd
 have HO := ι ho
 have hl := ho.cutl
 obtain ⟨A, cp, rfl⟩ := hd.form
 have HK := ι (fun W (hb : Below w.heap.size w W) => lcheck_any d _ W (HC.out.ext (Flat.stays _) hb) HO.out (HW.out.on hb))
 clear hw hd ho
 rw [show d.v (.slice A d.cuts.length cp) = .agg #[.string (sB d.title), .int .u8 d.rate, .bool d.drop, .slice A d.cuts.length cp] from rfl] at HK ⊢
 obtain ⟨G, hG⟩ : ∃ G, G = w.heap.size := ⟨_, rfl⟩
 obtain ⟨L, hL⟩ : ∃ L, L = lstE d := ⟨_, rfl⟩
 have HA := ι (show plyG d nm = if L = 0 then norS (plyL nm d.cuts) else ([], L) by rw [hL]; rfl)
 have HG := ι (fun (h : L = 0) => (lst_ok (hL.symm.trans h)).1)
 have HL := ι (fun (h : L = 0) => (lst_ok (hL.symm.trans h)).2)
 rw [← hL] at HK
 obtain ⟨R, hR⟩ : ∃ R, R = plyG d nm := ⟨_, rfl⟩
 rw [← hR] at HA ⊢
 clear hL hR
 obtain ⟨i0, hi, hz0, hz1, hz2⟩ := info_parts infoSpn
 have HI0 := ι (And.intro hi (And.intro hz0 (And.intro hz1 hz2)))
 clear hi hz0 hz1 hz2
 unfold RetP
 go_enter Tryz.func13, Tryz.ntmps13
 go_wp2_with fail
 rw [← hG]
 generalize hw1 : World.alloc w _ = w1
 have F1 := ι (show Held w1 G (d.cs (.slice A d.cuts.length cp)) by subst hw1; exact Held.new hG)
 have B1 := ι (show Below G w w1 by subst hw1; rw [hG]; exact Below.more' _ _)
 have HGe := ι hG
 clear hw1 hG
 refine (HK.out w1 (HGe.out ▸ B1.out)).mono ?_
 rintro e w2 ⟨rfl, hb⟩
 have hG1 : G < w1.heap.size := F1.out.lt
 have B2 := ι (B1.out.trans (hb.mono (Nat.le_of_lt hG1)))
 have F2 := ι (F1.out.ext hb)
 clear hb F1 B1 HK hG1
 have fq := F2.out.cell
 have hG2 := F2.out.lt
 unfold Lst.cs at fq
 by_cases h0 : L = 0
 ·subst h0
  have HA2 := ι (show R = norS (plyL nm d.cuts) by rw [HA.out, if_pos rfl])
  have HG2 := ι (HG.out rfl)
  have hl64 := HL.out rfl
  clear HA HG HL
  go_wp2_with fail
  clear fq
  obtain ⟨E, hE⟩ : ∃ E, E = w2.heap.size := ⟨_, rfl⟩
  have HE := ι hE
  have hGE : G < E := by omega
  clear hE
  go_loopw [7, 18] (fun ov i wr => ∃ (k : Nat) (uv : Value), uv = ov ∧ k ≤ d.cuts.length ∧ i = .int .i64 k ∧ Hid (wr.ownsRow E 29 2 uv (plyL nm (d.cuts.take k)).length ((plyL nm (d.cuts.take k)).flatMap spV)) ∧ Hid (Below E w2 wr)) (fun _ i _ => d.cuts.length - (intOf i).toNat)
  case atStart => exact ⟨0, _, rfl, Nat.zero_le _, rfl, ι (World.ownsRow_nil _ _ _ _), ι (Below.refl _ _)⟩
  case round =>
  obtain ⟨k, uv, rfl, hk, rfl, HOW, BR⟩ := hrel
  have hEw : E ≤ wr.heap.size := by have := BR.out.size; have := HE.out; omega
  have BW := ι (show Below G w wr from B2.out.trans (BR.out.mono (Nat.le_of_lt hGE)))
  by_cases hlt : k < d.cuts.length
  ·have hlt2 : (k : Int) < (d.cuts.length : Int) := by omega
   obtain ⟨x, hx⟩ : ∃ x, d.cuts[k]? = some x := ⟨_, List.getElem?_eq_getElem hlt⟩
   have HST := ι (ply_step (nm := nm) hx)
   have HX := ι (HG2.out.cut x (List.mem_of_getElem? hx))
   obtain ⟨b, o, rfl, q0, q1, q2, q3, q4, q5, q6⟩ := CutsAt.get (HC.out.ext (Flat.stays _) (HGe.out ▸ BW.out)) hx
   have hbr : b < wr.heap.size := World.block_lt_of_cell? wr _ q0
   have hml : (plyL nm (d.cuts.take k)).length ≤ 64 := by have := ply_len nm (d.cuts.take k); rw [List.length_take] at this; omega
   generalize plyL nm (d.cuts.take k) = M at *
   clear hx
   by_cases hn : x.reel = nm
   ·have HST2 := ι (show plyL nm (d.cuts.take (k + 1)) = M ++ [⟨x.src, lastV x + 1⟩] by rw [HST.out, if_pos hn])
    have t1 : ((sB x.reel).toList == (sB nm).toList) = true := by rw [str_eq]; simpa using hn
    clear HST hn
    obtain ⟨q, hq⟩ : ∃ q, q = lastV x := ⟨_, rfl⟩
    have hqb : 0 ≤ q ∧ q < 5184000 := by
     have h1 := HX.out
     have h2 := led_bd h1 (rec := x.o - 1) (by have := h1.io; omega) (by omega)
     rw [hq]
     have := h1.la
     have := h1.s0
     unfold lastV at *
     omega
    have HS := ι (show ∀ W, Calls Tryz.prog 37 #[.agg #[.int .i64 x.num, .string (sB x.reel), .int .i64 x.src, .int .i64 x.i, .int .i64 x.o, .int .i64 x.sn, .int .i64 x.sd], .int .i64 (x.o - 1)] W fun e w' => e = .returned (.int .i64 q) ∧ Below W.heap.size W w' from fun W => by
     rw [hq]
     have := HX.out
     exact source_any x (x.o - 1) W this.sp (by have := this.io; omega) (by have h1 := this.o1; have h2 := this.i0; omega) this.i0 (by have h1 := this.io; have h2 := this.o1; omega) this.s0 (Int.le_of_lt this.s1))
    rw [← hq] at HST2
    have hob : 0 < x.o ∧ x.o ≤ 5184000 := by have := HX.out; have h1 := this.i0; have h2 := this.io; have h3 := this.o1; omega
    have q1' : IntKind.i64.wrap (x.o - 1) = x.o - 1 := by rw [IntKind.wrap_i64]; omega
    have q2' : IntKind.i64.wrap (q + 1) = q + 1 := by rw [IntKind.wrap_i64]; omega
    have WX := ι (And.intro q1' q2')
    have HB := ι (And.intro hob hqb)
    clear hq hob hqb q1' q2'
    go_wp2_with fail
    generalize hw5 : World.alloc wr _ = w5
    obtain ⟨X, hX⟩ : ∃ X, X = wr.heap.size := ⟨_, rfl⟩
    rw [← hX]
    have F5 := ι (show Held w5 X x.cs by subst hw5; exact Held.new hX)
    have B5 := ι (show Below E w2 w5 by subst hw5; exact BR.out.alloc hEw _)
    have HO5 := ι (show w5.ownsRow E 29 2 uv M.length (M.flatMap spV) by subst hw5; exact HOW.out.alloc _)
    clear hw5 hX q0 q1 q2 q3 q4 q5 q6 t1
    obtain ⟨N, hN⟩ : ∃ N, N = w5.heap.size := ⟨_, rfl⟩
    have HN := ι hN
    have hXN : X < N := by have := F5.out.lt; omega
    have hEN : E ≤ N := by have := B5.out.size; have := HE.out; omega
    have HSZ := ι (show ∀ w', Below N w5 w' → N ≤ w'.heap.size from fun w' h => by have := h.size; omega)
    clear hN
    have q1' : IntKind.i64.wrap (x.o - 1) = x.o - 1 := WX.out.1
    have q2' : IntKind.i64.wrap (q + 1) = q + 1 := WX.out.2
    have e0 : w5.cell? ⟨X, 0, none⟩ = some (.int .i64 x.num) := F5.out.cell 0
    have e1 : w5.cell? ⟨X, 1, none⟩ = some (.string (sB x.reel)) := F5.out.cell 1
    have e2 : w5.cell? ⟨X, 2, none⟩ = some (.int .i64 x.src) := F5.out.cell 2
    have e3 : w5.cell? ⟨X, 3, none⟩ = some (.int .i64 x.i) := F5.out.cell 3
    have e4 : w5.cell? ⟨X, 4, none⟩ = some (.int .i64 x.o) := F5.out.cell 4
    have e5 : w5.cell? ⟨X, 5, none⟩ = some (.int .i64 x.sn) := F5.out.cell 5
    have e6 : w5.cell? ⟨X, 6, none⟩ = some (.int .i64 x.sd) := F5.out.cell 6
    refine wp_region_spec_tail 12 (by kernel_rfl) (fun w' => Below N w5 w') (PhiPl X N x q uv) 44 rfl (by kernel_rfl) (by kernel_rfl) (by kernel_rfl) (by kernel_rfl) (by kernel_rfl) (Below.refl _ _).drew ?hops ?hend
    case hops =>
     refine ⟨?o0, ?o1, ?o2, ?o3, ?o4, ?o5, ?o6, ?o7, ?o8, ?o9, ?o10, ?o11, trivial⟩
     case o0 =>
      intro ev w8 hI δ φ
      have a7 : ev 7 = uv := φ 7 (by kernel_rfl)
      clear δ φ
      try dsimp only
      simp [OpRuns, execOp, evalOf, a7, go_sem]
      exact ⟨hI, rfl, ν rfl⟩
     case o1 =>
      intro ev w8 hI δ φ
      have a9 : ev 9 = .pointer (some ⟨X, 0, none⟩) := φ 9 (by kernel_rfl)
      clear δ φ
      try dsimp only
      simp [OpRuns, execOp, evalOf, a9, go_sem]
      exact ⟨hI, rfl, ν rfl⟩
     case o2 =>
      intro ev w8 hI δ φ
      have a27 : ev 27 = .pointer (some ⟨X, 2, none⟩) := (δ 1 27 (by kernel_rfl) rfl).1
      have y0 : w8.cell? ⟨X, 2, none⟩ = some (.int .i64 x.src) := (hI.cell (p := ⟨X, 2, none⟩) hXN).trans e2
      clear δ φ
      try dsimp only
      simp [OpRuns, execOp, evalOf, a27, y0, go_sem]
      exact ⟨hI, rfl, ν rfl⟩
     case o3 =>
      intro ev w8 hI δ φ
      have a9 : ev 9 = .pointer (some ⟨X, 0, none⟩) := φ 9 (by kernel_rfl)
      have y0 : w8.cell? ⟨X, 0, none⟩ = some (.int .i64 x.num) := (hI.cell (p := ⟨X, 0, none⟩) hXN).trans e0
      have y1 : w8.cell? ⟨X, 1, none⟩ = some (.string (sB x.reel)) := (hI.cell (p := ⟨X, 1, none⟩) hXN).trans e1
      have y2 : w8.cell? ⟨X, 2, none⟩ = some (.int .i64 x.src) := (hI.cell (p := ⟨X, 2, none⟩) hXN).trans e2
      have y3 : w8.cell? ⟨X, 3, none⟩ = some (.int .i64 x.i) := (hI.cell (p := ⟨X, 3, none⟩) hXN).trans e3
      have y4 : w8.cell? ⟨X, 4, none⟩ = some (.int .i64 x.o) := (hI.cell (p := ⟨X, 4, none⟩) hXN).trans e4
      have y5 : w8.cell? ⟨X, 5, none⟩ = some (.int .i64 x.sn) := (hI.cell (p := ⟨X, 5, none⟩) hXN).trans e5
      have y6 : w8.cell? ⟨X, 6, none⟩ = some (.int .i64 x.sd) := (hI.cell (p := ⟨X, 6, none⟩) hXN).trans e6
      clear δ φ
      try dsimp only
      simp [OpRuns, execOp, evalOf, a9, y0, y1, y2, y3, y4, y5, y6, go_sem]
      exact ⟨hI, rfl, ν rfl⟩
     case o4 =>
      intro ev w8 hI δ φ
      have a9 : ev 9 = .pointer (some ⟨X, 0, none⟩) := φ 9 (by kernel_rfl)
      clear δ φ
      try dsimp only
      simp [OpRuns, execOp, evalOf, a9, go_sem]
      exact ⟨hI, rfl, ν rfl⟩
     case o5 =>
      intro ev w8 hI δ φ
      have a30 : ev 30 = .pointer (some ⟨X, 3, none⟩) := (δ 4 30 (by kernel_rfl) rfl).1
      clear δ φ
      try dsimp only
      simp [OpRuns, execOp, evalOf, a30, go_sem]
      exact ⟨hI, rfl, ν rfl⟩
     case o6 =>
      intro ev w8 hI δ φ
      have a31 : ev 31 = .pointer (some ⟨X, 4, none⟩) := (δ 5 31 (by kernel_rfl) rfl).1
      have y0 : w8.cell? ⟨X, 4, none⟩ = some (.int .i64 x.o) := (hI.cell (p := ⟨X, 4, none⟩) hXN).trans e4
      clear δ φ
      try dsimp only
      simp [OpRuns, execOp, evalOf, a31, y0, go_sem]
      exact ⟨hI, rfl, ν rfl⟩
     case o7 =>
      intro ev w8 hI δ φ
      have a32 : ev 32 = .int .i64 x.o := (δ 6 32 (by kernel_rfl) rfl).1
      clear δ φ
      try dsimp only
      simp [OpRuns, execOp, evalOf, a32, q1', go_sem]
      exact ⟨hI, rfl, ν rfl⟩
     case o8 =>
      intro ev w8 hI δ φ
      have a29 : ev 29 = .agg #[.int .i64 x.num, .string (sB x.reel), .int .i64 x.src, .int .i64 x.i, .int .i64 x.o, .int .i64 x.sn, .int .i64 x.sd] := (δ 3 29 (by kernel_rfl) rfl).1
      have a33 : ev 33 = .int .i64 (x.o - 1) := (δ 7 33 (by kernel_rfl) rfl).1
      clear δ φ
      try dsimp only
      refine runs_call (f := 37) (args := #[.agg #[.int .i64 x.num, .string (sB x.reel), .int .i64 x.src, .int .i64 x.i, .int .i64 x.o, .int .i64 x.sn, .int .i64 x.sd], .int .i64 (x.o - 1)]) (by simp [execOp, evalOf, resolve, invoke, a29, a33, go_sem]) ((HS.out w8).mono ?_)
      rintro e w9 ⟨he, hb⟩
      exact ⟨_, he, hI.trans (hb.mono (HSZ.out w8 hI)), PhiPl.ext X N x q uv hb, fun d hd => by cases hd; exact ⟨rfl, ν rfl⟩⟩
     case o9 =>
      intro ev w8 hI δ φ
      have a34 : ev 34 = .int .i64 q := (δ 8 34 (by kernel_rfl) rfl).1
      clear δ φ
      try dsimp only
      simp [OpRuns, execOp, evalOf, a34, q2', go_sem]
      exact ⟨hI, rfl, ν rfl⟩
     case o10 =>
      intro ev w8 hI δ φ
      have a28 : ev 28 = .int .i64 x.src := (δ 2 28 (by kernel_rfl) rfl).1
      have a35 : ev 35 = .int .i64 (q + 1) := (δ 9 35 (by kernel_rfl) rfl).1
      clear δ φ
      try dsimp only
      simp [OpRuns, execOp, evalOf, a28, a35, go_sem]
      exact ⟨hI, rfl, ν rfl⟩
     case o11 =>
     intro ev w8 hI δ φ
     have a36 : ev 36 = .agg #[.int .i64 x.src, .int .i64 (q + 1)] := (δ 10 36 (by kernel_rfl) rfl).1
     clear δ φ
     try dsimp only
     simp [OpRuns, execOp, evalOf, a36, go_sem]
     exact ⟨hI.alloc (HSZ.out w8 hI) _, PhiPl.ext X N x q uv (Below.more' _ _), trivial, fun e => ⟨_, rfl, HSZ.out w8 hI, Held.new rfl⟩⟩
    case hend =>
    intro a w6 hdf hsz hI hPhi κ
    replace hdf : a.defers = [] := hdf
    replace hsz : a.tmps.size = 44 := hsz
    have x26 : a.tmps.getD 26 undef = uv := (hPhi 0 26 (by omega) (by kernel_rfl)).1
    obtain ⟨h37, x37, hE37, hr37⟩ := (hPhi 11 37 (by omega) (by kernel_rfl)).2 rfl
    have x0 := κO κ 0 (Value.agg #[Value.string (sB d.title), Value.int IntKind.u8 d.rate, Value.bool d.drop, Value.slice (some { block := b, off := o }) d.cuts.length cp]) rfl rfl
    have x1 := κO κ 1 (Value.string (sB nm)) rfl rfl
    have x2 := κO κ 2 (Value.pointer (some { block := G, off := 0 })) rfl rfl
    have x3 := κO κ 3 (undef) rfl rfl
    have x4 := κO κ 4 (Value.slice none 0 0) rfl rfl
    have x5 := κO κ 5 (Value.int IntKind.i64 0) rfl rfl
    have x6 := κO κ 6 (Value.int IntKind.i64 0) rfl rfl
    have x7 := κO κ 7 (uv) rfl rfl
    have x8 := κO κ 8 (undef) rfl rfl
    have x9 := κO κ 9 (Value.pointer (some { block := X, off := 0 })) rfl rfl
    have x10 := κO κ 10 (Value.agg #[Value.string (sB d.title), Value.int IntKind.u8 d.rate, Value.bool d.drop, Value.slice (some { block := b, off := o }) d.cuts.length cp]) rfl rfl
    have x11 := κO κ 11 (Value.int IntKind.i64 0) rfl rfl
    have x12 := κO κ 12 (Value.int IntKind.i64 0) rfl rfl
    have x13 := κO κ 13 (Value.bool false) rfl rfl
    have x14 := κO κ 14 (undef) rfl rfl
    have x15 := κO κ 15 (Value.pointer (some { block := G, off := 3 })) rfl rfl
    have x16 := κO κ 16 (Value.slice (some { block := b, off := o }) d.cuts.length cp) rfl rfl
    have x17 := κO κ 17 (Value.int IntKind.i64 (↑d.cuts.length : Int)) rfl rfl
    have x18 := κO κ 18 (Value.int IntKind.i64 (↑k : Int)) rfl rfl
    have x19 := κO κ 19 (Value.bool true) rfl rfl
    have x20 := κO κ 20 (Value.pointer (some { block := b, off := o + k * 7 })) rfl rfl
    have x21 := κO κ 21 (Value.agg #[Value.int IntKind.i64 x.num, Value.string (sB x.reel), Value.int IntKind.i64 x.src, Value.int IntKind.i64 x.i, Value.int IntKind.i64 x.o, Value.int IntKind.i64 x.sn, Value.int IntKind.i64 x.sd]) rfl rfl
    have x22 := κO κ 22 (Value.pointer (some { block := X, off := 1 })) rfl rfl
    have x23 := κO κ 23 (Value.string (sB x.reel)) rfl rfl
    have x24 := κO κ 24 (Value.string (sB nm)) rfl rfl
    have x25 := κO κ 25 (Value.bool true) rfl rfl
    have x38 := κO κ 38 (u38) rfl rfl
    have x39 := κO κ 39 (u39) rfl rfl
    have x40 := κO κ 40 (undef) rfl rfl
    have x41 := κO κ 41 (undef) rfl rfl
    have x42 := κO κ 42 (undef) rfl rfl
    have x43 := κO κ 43 (undef) rfl rfl
    have ea := act_lit hsz hdf
    simp only [getDs] at ea
    rw [x26, x37, x0, x1, x2, x3, x4, x5, x6, x7, x8, x9, x10, x11, x12, x13, x14, x15, x16, x17, x18, x19, x20, x21, x22, x23, x24, x25, x38, x39, x40, x41, x42, x43] at ea
    rw [ea]
    clear ea x26 x37 x0 x1 x2 x3 x4 x5 x6 x7 x8 x9 x10 x11 x12 x13 x14 x15 x16 x17 x18 x19 x20 x21 x22 x23 x24 x25 x38 x39 x40 x41 x42 x43 hPhi κ hdf hsz
    generalize a.tmps.getD 27 undef = u27, a.tmps.getD 28 undef = u28, a.tmps.getD 29 undef = u29, a.tmps.getD 30 undef = u30, a.tmps.getD 31 undef = u31, a.tmps.getD 32 undef = u32, a.tmps.getD 33 undef = u33, a.tmps.getD 34 undef = u34, a.tmps.getD 35 undef = u35, a.tmps.getD 36 undef = u36
    clear a
    have B6 := ι (show Below E w2 w6 from B5.out.trans (hI.mono hEN))
    have HO6 := ι (show w6.ownsRow E 29 2 uv M.length (M.flatMap spV) from own_ext HO5.out (HN.out ▸ hI))
    have F6 := ι hr37
    have hE6 : E ≤ w6.heap.size := by have := B6.out.size; have := HE.out; omega
    clear e0 e1 e2 e3 e4 e5 e6 hXN hI B5 F5 HO5 q1' q2' hE37 hr37
    have zc := CellsAt.of_all (w := w6) (g := h37) (k := 0) (l := [.int .i64 x.src, .int .i64 (q + 1)]) (fun j u hu => by rw [Addr.add_lit, Nat.zero_add, F6.out.cell]; exact hu)
    have ZC := ι zc
    clear zc
    go_loud (refine wpList_append_own _ rfl _ _ 60 rfl E 29 i0 (.agg #[.int .i64 0, .int .i64 0]) 2 16 Tryz.underlying60 HI0.out.1 HI0.out.2.1 HI0.out.2.2.1 HI0.out.2.2.2 rfl (by decide) _ M.length _ rfl HO6.out ⟨h37, 0, none⟩ 1 1 [.int .i64 x.src, .int .i64 (q + 1)] rfl rfl (CellsAt.all ZC.out) (by simp [Value.oneCell']) (by simp only [maxLen]; omega) (by omega) hE6 ?_)
    intro v7 w7 ho7 hgr7 _
    have HO7 := ι (show w7.ownsRow E 29 2 v7 (plyL nm (d.cuts.take (k + 1))).length ((plyL nm (d.cuts.take (k + 1))).flatMap spV) by
     rw [HST2.out, List.flatMap_append, List.length_append]
     exact ho7)
    have B7 := ι (show Below E w2 w7 from B6.out.grown hgr7 hE6 (own_base HO6.out))
    clear ho7 hgr7 HO6 B6 F6 ZC
    go_wp2_with fail
    go_roundw
    case rel => exact ⟨k + 1, _, rfl, by omega, by go_num, HO7, B7⟩
    case measure => simp [intOf]; omega
   have HST2 := ι (show plyL nm (d.cuts.take (k + 1)) = M by rw [HST.out, if_neg hn, List.append_nil])
   have t1 : ((sB x.reel).toList == (sB nm).toList) = false := by rw [str_eq]; simpa using hn
   clear HST hn
   go_wp2_with fail
   go_roundw
   case rel => exact ⟨k + 1, _, rfl, by omega, by go_num, ι (by rw [HST2.out]; exact HOW.out.alloc _), ι (BR.out.alloc hEw _)⟩
   case measure => simp [intOf]; omega
  obtain rfl : k = d.cuts.length := by omega
  rw [List.take_length] at HOW
  have hml : (plyL nm d.cuts).length ≤ 64 := by have := ply_len nm d.cuts; omega
  generalize plyL nm d.cuts = M at *
  obtain ⟨A3, c3, e3, hr3, _⟩ := row_of_ownK HOW.out
  subst e3
  have HR3 := ι hr3
  clear hlt hr3
  go_wp2_with fail
  refine (norm_any A3 c3 M wr HR3.out (by omega)).mono ?_
  unfold RetP
  rintro e w3 ⟨⟨v, rfl, ho⟩, hb⟩
  have HO3 := ι (ownsRow_mono ho (show w.heap.size ≤ wr.heap.size by have := BW.out.size; omega))
  have B3 := ι (show Below w.heap.size w w3 from HGe.out ▸ BW.out.trans (hb.mono (by have := BW.out.size; have := HGe.out; omega)))
  clear ho hb
  go_wp2_with fail
  go_ret2
  rw [HA2.out]
  exact ⟨⟨v, rfl, HO3.out⟩, B3.out⟩
 have HA2 := ι (show R = ([], L) by rw [HA.out, if_neg h0])
 have t0 : (L != 0) = true := by simpa using h0
 clear HA HG
 go_wp2_with fail
 go_ret2
 rw [HA2.out]
 exact ⟨⟨_, rfl, World.ownsRow_nil _ _ _ _⟩, HGe.out ▸ B2.out⟩
end Go.Proofs.YtmopjhbfobmklaaGreatDoor
