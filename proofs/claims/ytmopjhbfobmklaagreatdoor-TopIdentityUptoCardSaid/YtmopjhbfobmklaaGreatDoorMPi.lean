/-
  The contract of the law TopIdentity. Its conditions are its hypotheses.
-/
import Derived.Test.YtmopjhbfobmklaaGreatDoorMCs2
import Derived.Test.YtmopjhbfobmklaaGreatDoorMCq
import Derived.Test.YtmopjhbfobmklaaGreatDoorMQ6
import Derived.Test.YtmopjhbfobmklaaGreatDoorMHd
import Derived.Test.YtmopjhbfobmklaaGreatDoorMBh
import Derived.Deep.CutRange
set_option maxRecDepth 100000
set_option maxHeartbeats 40000000
namespace Go.Proofs.YtmopjhbfobmklaaGreatDoor
open Go.RowKit Go.Joins
set_option linter.unusedVariables false
set_option linter.unusedSimpArgs false
def seiM : List Ct := [⟨0, [], 0, 0, 7, 0, 0⟩]
theorem sei_lem : lenG seiM = 7 := by decide
theorem sei_any (g : Nat) (w : World) (h : Held w g (⟨0, [], 0, 0, 7, 0, 0⟩ : Ct).cs) :
  Calls Tryz.prog 6 #[.agg #[.string ⟨#[]⟩, .int .u8 0, .bool false, .slice (some ⟨g, 0, none⟩) 1 1]] w fun e w' => e = .returned (.int .i64 7) ∧ Below w.heap.size w w' := by
 have := length_any ⟨[], 0, false, seiM⟩ _ w (cuts_one h) (by decide)
 rw [show lenG (Lst.cuts ⟨[], 0, false, seiM⟩) = 7 from sei_lem] at this
 exact this
theorem fieldS_run (a b : Int) (w : World) : (Instr.field 29 (.agg #[.int .i64 a, .int .i64 b]) 1).run Tryz.prog w = .ok (.int .i64 b) w := by
 simp [Instr.field, run_underlying Tryz.underlying29, asAgg, go_sem]
theorem shwV_len (R : List Rg) (E : List Ev) : (shwV R E).length ≤ 2 * E.length := by
 unfold shwV
 have h1 := shwK_len (scrV R E) (tmsS E) ((tmsS E).length - 1)
 have h2 := Lib.compact_length_le (sortI (tmsE E))
 rw [show (sortI (tmsE E)).length = 2 * E.length by rw [← tmsE_len]; simp] at h2
 unfold tmsS at h1 ⊢
 omega
theorem ShI.get {w : World} {B n c : Nat} {A : Option Addr} {xs : List Shw} (h : ShI w B (.slice A n c) xs) {k : Nat} {x : Shw} (hx : xs[k]? = some x) :
  ∃ g gA gc, A = some ⟨g, 0, none⟩ ∧ g < w.heap.size ∧ w.cell? ⟨g, k * 3, none⟩ = some (.int .i64 x.i) ∧ w.cell? ⟨g, k * 3 + 1, none⟩ = some (.int .i64 x.o) ∧ w.cell? ⟨g, k * 3 + 2, none⟩ = some (.slice gA x.g.length gc) ∧ SeqT w 112 6 (Flat Gl.cs) (.slice gA x.g.length gc) x.g := by
 obtain ⟨A', c', h1, h2, h3, h4⟩ := OwnS.seq h (by decide)
 injection h1 with q1 q2 q3
 subst q1
 obtain ⟨b, o, cs, rfl, ⟨⟨cur, e2⟩, e3, rfl⟩, e5, e6, gv, rfl, e7⟩ := h4 k x hx
 have k2 := e7
 unfold SeqT at k2
 obtain ⟨gA, gc, rfl, _⟩ := k2
 have q0 := e6 0 _ rfl
 have q1 := e6 1 _ rfl
 have q2 := e6 2 _ rfl
 rw [Nat.zero_add] at q0 q1 q2
 exact ⟨b, gA, gc, rfl, (Array.getElem?_eq_some_iff.1 e2).1, q0, q1, q2, e7⟩
def PhiTiY (ga gb k nS sac sbc ng gc1 gc2 : Nat) (g1 g2 : Option Addr) (yi yo : Int) : Nat → Value → Prop
 | 131, v => v = .slice (some ⟨ga, 0, none⟩) nS sac
 | 132, v => v = .int .i64 (k : Int)
 | 133, v => v = .pointer (some ⟨ga, k * 3, none⟩)
 | 134, v => v = .pointer (some ⟨ga, k * 3, none⟩)
 | 135, v => v = .agg #[.int .i64 yi, .int .i64 yo]
 | 136, v => v = .slice (some ⟨gb, 0, none⟩) nS sbc
 | 137, v => v = .int .i64 (k : Int)
 | 138, v => v = .pointer (some ⟨gb, k * 3, none⟩)
 | 139, v => v = .pointer (some ⟨gb, k * 3, none⟩)
 | 140, v => v = .agg #[.int .i64 yi, .int .i64 yo]
 | 141, v => v = .bool (false)
 | 142, v => v = .bool (false)
 | 143, v => (false = false → v = .slice (some ⟨ga, 0, none⟩) nS sac) ∧ (¬ (false = false) → v = undef)
 | 144, v => (false = false → v = .int .i64 (k : Int)) ∧ (¬ (false = false) → v = undef)
 | 145, v => (false = false → v = .pointer (some ⟨ga, k * 3, none⟩)) ∧ (¬ (false = false) → v = undef)
 | 146, v => (false = false → v = .pointer (some ⟨ga, k * 3 + 2, none⟩)) ∧ (¬ (false = false) → v = undef)
 | 147, v => (false = false → v = .slice g1 ng gc1) ∧ (¬ (false = false) → v = undef)
 | 148, v => (false = false → v = .slice (some ⟨gb, 0, none⟩) nS sbc) ∧ (¬ (false = false) → v = undef)
 | 149, v => (false = false → v = .int .i64 (k : Int)) ∧ (¬ (false = false) → v = undef)
 | 150, v => (false = false → v = .pointer (some ⟨gb, k * 3, none⟩)) ∧ (¬ (false = false) → v = undef)
 | 151, v => (false = false → v = .pointer (some ⟨gb, k * 3 + 2, none⟩)) ∧ (¬ (false = false) → v = undef)
 | 152, v => (false = false → v = .slice g2 ng gc2) ∧ (¬ (false = false) → v = undef)
 | 153, v => (false = false → v = .bool true) ∧ (¬ (false = false) → v = undef)
 | 154, v => (false = false → v = .bool (!true)) ∧ (¬ (false = false) → v = undef)
 | 155, v => v = .bool (false || (!true))
 | _, _ => True
def PhiTi (ga gb k nS sac sbc ng gc1 gc2 : Nat) (g1 g2 : Option Addr) (yi yo : Int) (sl : Nat) (v : Value) (w : World) : Prop := PhiTiY ga gb k nS sac sbc ng gc1 gc2 g1 g2 yi yo sl v ∧ True
theorem PhiTi.ext (ga gb k nS sac sbc ng gc1 gc2 : Nat) (g1 g2 : Option Addr) (yi yo : Int) {w w' : World} (hb : Below w.heap.size w w') : ∀ sl v, PhiTi ga gb k nS sac sbc ng gc1 gc2 g1 g2 yi yo sl v w → PhiTi ga gb k nS sac sbc ng gc1 gc2 g1 g2 yi yo sl v w' := fun sl v h => ⟨h.1, h.2⟩
theorem identity_law (d : Dc) (rv ev cv : Value) (n m : Int) (w : World) (h : DocAt w d rv ev cv) (ho : DcOk d) (hn0 : -9223372036854775808 ≤ n) (hn1 : n ≤ 9223372036854775807) (hm0 : -9223372036854775808 ≤ m) (hm1 : m ≤ 9223372036854775807) (hw : Wt w) :
  Calls Tryz.prog 5 #[d.v rv ev cv, .int .i64 n, .int .i64 m] w fun e w' => e = .returned (.bool true) ∧ Below w.heap.size w w' := by
 have HW := ι hw
 have HFW := ι (fun W => fewer_any d rv ev cv w W h ho)
 have HXO := ι (fewD_ok ho)
 have HXE := ι (fewD_evs d)
 obtain ⟨A, c, rfl⟩ := h.evs.form
 obtain ⟨A1, c1, rfl⟩ := h.regs.form
 obtain ⟨A2, c2, rfl⟩ := h.cms.form
 obtain ⟨x, hx⟩ : ∃ x, x = fewD d := ⟨_, rfl⟩
 rw [← hx] at HFW HXO HXE
 clear h ho hw hx
 generalize d.evs.length = nE at *
 generalize d.regs.length = nR at *
 generalize d.cms.length = nK at *
 have hdv : d.v (.slice A1 nR c1) (.slice A nE c) (.slice A2 nK c2) = .agg #[.string (sB d.title), .string (sB d.lang), .int .u8 d.rate, .bool d.drop, .int .i64 d.last, .slice A1 nR c1, .slice A nE c, .slice A2 nK c2] := rfl
 rw [hdv] at HFW ⊢
 clear hdv
 obtain ⟨D, hD⟩ : ∃ D, D = w.heap.size := ⟨_, rfl⟩
 go_enter Tryz.func5, Tryz.ntmps5
 go_wp2_with fail
 rw [← hD]
 generalize hw1 : World.alloc (World.alloc w _) _ = w1
 have F1 := ι (show Held w1 D (d.cs (.slice A1 nR c1) (.slice A nE c) (.slice A2 nK c2)) by subst hw1; exact (Held.new hD).alloc _)
 have S1 := ι (show Held w1 (D + 1) (⟨0, [], 0, 0, 7, 0, 0⟩ : Ct).cs by subst hw1; exact Held.new (by simp [hD]))
 have B1 := ι (show Below w.heap.size w w1 by subst hw1; exact (Below.more' _ _).alloc (by simp) _)
 have HD := ι hD
 clear hw1 hD
 refine (sei_any (D + 1) w1 S1.out).mono ?_
 rintro e w2 ⟨rfl, hb⟩
 have F2 := ι (F1.out.ext hb)
 have B2 := ι (B1.out.trans (hb.mono B1.out.size))
 have hD2 : D < w2.heap.size := F2.out.lt
 clear hb F1 S1 B1
 have q := F2.out.cell
 unfold Dc.cs at q
 go_wp2_with fail
 clear q
 refine (HFW.out w2).mono ?_
 rintro e w3 ⟨⟨r, ev, k, rfl, hda⟩, hb⟩
 have F3 := ι (F2.out.ext hb)
 have B3 := ι (B2.out.trans (hb.mono B2.out.size))
 have hD3 : D < w3.heap.size := F3.out.lt
 have HDA := ι hda
 clear hb F2 B2 HFW hD2 hda
 obtain ⟨eA, ec, rfl⟩ := HDA.out.evs.form
 obtain ⟨rA, rc, rfl⟩ := HDA.out.regs.form
 obtain ⟨kA, kc, rfl⟩ := HDA.out.cms.form
 obtain ⟨yE, hyE⟩ : ∃ y, y = x.evs.length := ⟨_, rfl⟩
 rw [← hyE] at HDA HXE ⊢
 have HYE := ι hyE
 clear hyE
 generalize x.regs.length = yR at *
 generalize x.cms.length = yK at *
 have hxv : x.v (.slice rA yR rc) (.slice eA yE ec) (.slice kA yK kc) = .agg #[.string (sB x.title), .string (sB x.lang), .int .u8 x.rate, .bool x.drop, .int .i64 x.last, .slice rA yR rc, .slice eA yE ec, .slice kA yK kc] := rfl
 rw [hxv]
 have q := F3.out.cell
 have z := F3.out.free
 unfold Dc.cs at q
 go_wp2_with fail
 clear q z
 generalize hw4 : World.setCell _ _ _ = w4
 have F4 := ι (show Held w4 D (x.cs (.slice rA yR rc) (.slice eA yE ec) (.slice kA yK kc)) by subst hw4; exact F3.out.all (x.cs (.slice rA yR rc) (.slice eA yE ec) (.slice kA yK kc)) rfl)
 have B4 := ι (show Below w.heap.size w w4 by subst hw4; exact Below.all (by have := HD.out; omega) (x.cs (.slice rA yR rc) (.slice eA yE ec) (.slice kA yK kc)) 0 B3.out)
 have HDC := ι (show ∀ W, Below w.heap.size w W → Calls Tryz.prog 19 #[.agg #[.string (sB x.title), .string (sB x.lang), .int .u8 x.rate, .bool x.drop, .int .i64 x.last, .slice rA yR rc, .slice eA yE ec, .slice kA yK kc]] W fun e w' => e = .returned (.int .i64 (dcE x)) ∧ Below W.heap.size W w' from fun W hb => dcheck_any x _ _ _ W (HDA.out.ext hb) HXO.out (HW.out.on hb))
 have HDS := ι (show ∀ W, Below w.heap.size w W → Calls Tryz.prog 20 #[.agg #[.string (sB x.title), .string (sB x.lang), .int .u8 x.rate, .bool x.drop, .int .i64 x.last, .slice rA yR rc, .slice eA yE ec, .slice kA yK kc]] W fun e w' => e = .returned (.agg #[.int .i64 (dspV x.evs).i, .int .i64 (dspV x.evs).o]) ∧ Below W.heap.size W w' from fun W hb => dspan_any x _ _ _ W (HDA.out.ext hb).evs (by rw [← HYE.out]; have := HXE.out; omega))
 have hD4 : D < w4.heap.size := F4.out.lt
 clear hw4 F3 B3 hD3
 obtain ⟨E0, hE0⟩ : ∃ e, e = dcE x := ⟨_, rfl⟩
 rw [← hE0] at HDC
 have HE0 := ι hE0
 clear hE0
 refine (HDC.out w4 B4.out).mono ?_
 rintro e w5 ⟨rfl, hb⟩
 have F5 := ι (F4.out.ext hb)
 have B5 := ι (B4.out.trans (hb.mono B4.out.size))
 have hD5 : D < w5.heap.size := F5.out.lt
 clear hb F4 B4 hD4 HDC
 by_cases h0 : E0 = 0
 case neg =>
  have t0 : (E0 != 0) = true := by simpa using h0
  go_wp2_with fail
  go_ret
  exact ⟨rfl, B5.out⟩
 have H0 := ι (show dcE x = 0 by rw [← HE0.out]; exact h0)
 subst h0
 have q := F5.out.cell
 unfold Dc.cs at q
 go_wp2_with fail
 clear q
 refine (HDS.out w5 B5.out).mono ?_
 rintro e w6 ⟨rfl, hb⟩
 have F6 := ι (F5.out.ext hb)
 have B6 := ι (B5.out.trans (hb.mono B5.out.size))
 have hD6 : D < w6.heap.size := F6.out.lt
 clear hb F5 B5 HDS hD5
 have HIN := ι (fun y (hy : y ∈ x.evs) => dspV_in hy)
 generalize dspV x.evs = sp at *
 obtain ⟨si, so⟩ := sp
 dsimp only at HIN ⊢
 have hfd := fieldS_run si so
 by_cases h1 : n < so
 case pos =>
  have t0 : decide (n < so) = true := by simpa using h1
  go_wp2_with fail
  go_ret
  exact ⟨rfl, B6.out⟩
 have t0 : decide (n < so) = false := by simpa using h1
 have HON := ι (show ∀ y ∈ x.evs, y.o ≤ n from fun y hy => Int.le_trans (HIN.out y hy) (by omega))
 have q := F6.out.cell
 unfold Dc.cs at q
 go_wp2_with fail
 clear q t0 h1 HIN hfd
 have HID := ι (show Calls Tryz.prog 21 #[.int .u8 x.rate, .bool x.drop, .string (sB nmA), .int .i64 n] w6 (IdeP x.rate x.drop nmA n w6) from ident_any x.rate x.drop nmA n w6 HXO.out.rate.1 HXO.out.rate.2 (HW.out.on B6.out))
 unfold IdeP at HID
 obtain ⟨E1, hE1⟩ : ∃ e, e = lstE (idL x.rate x.drop nmA n) := ⟨_, rfl⟩
 rw [← hE1] at HID
 have HE1 := ι hE1
 clear hE1
 refine HID.out.mono ?_
 rintro e w7 ⟨⟨l, cv, rfl, hcl, hle⟩, hb⟩
 have F7 := ι (F6.out.ext hb)
 have B7 := ι (B6.out.trans (hb.mono B6.out.size))
 have hD7 : D < w7.heap.size := F7.out.lt
 clear hb F6 B6 HID hD6
 rw [show Lst.v l cv = .agg #[.string (sB l.title), .int .u8 l.rate, .bool l.drop, cv] from rfl]
 obtain ⟨cA, cc, rfl⟩ := hcl.form
 by_cases h1 : E1 = 0
 case neg =>
  have t0 : (E1 != 0) = true := by simpa using h1
  clear hle hcl
  generalize l.cuts.length = nC
  go_wp2_with fail
  go_ret
  exact ⟨rfl, B7.out.trans ((Below.more' _ _).mono B7.out.size)⟩
 obtain rfl := hle h1
 have H1 := ι (show lstE (idL x.rate x.drop nmA n) = 0 by rw [← HE1.out]; exact h1)
 subst h1
 have HCL := ι (show CutsAt w7 (.slice cA 1 cc) (idL x.rate x.drop nmA n).cuts from hcl)
 have HLO := ι (show LsOk (idL x.rate x.drop nmA n) from id_lsok HXO.out.rate)
 have HAT := id_at (d := x) H1.out m
 clear hle hcl
 go_wp2_with fail
 obtain ⟨H, hH⟩ : ∃ H, H = w7.heap.size := ⟨_, rfl⟩
 rw [← hH]
 generalize hw8 : World.alloc w7 _ = w8
 have L8 := ι (show Held w8 H ((idL x.rate x.drop nmA n).cs (.slice cA 1 cc)) by subst hw8; exact Held.new hH)
 have F8 := ι (show Held w8 D (x.cs (.slice rA yR rc) (.slice eA yE ec) (.slice kA yK kc)) by subst hw8; exact F7.out.alloc _)
 have BA8 := ι (show Below w7.heap.size w7 w8 by subst hw8; exact Below.more' _ _)
 have B8 := ι (B7.out.trans (BA8.out.mono B7.out.size))
 have HC8 := ι (show CutsAt w8 (.slice cA 1 cc) (idL x.rate x.drop nmA n).cuts from SeqAt.ext HCL.out (Flat.stays _) BA8.out)
 clear hw8 hH F7 B7 BA8 HCL hD7
 have HPC := ι (show Calls Tryz.prog 22 #[(idL x.rate x.drop nmA n).v (.slice cA 1 cc), .string (sB nmA)] w8 (PcsP (pcsG (idL x.rate x.drop nmA n) nmA) w8) from pieces_any _ _ nmA w8 HC8.out HLO.out (HW.out.on B8.out))
 rw [HAT.1] at HPC
 unfold PcsP at HPC
 refine HPC.out.mono ?_
 rintro e w9 ⟨⟨pA, pc, rfl, hpc⟩, hb⟩
 have F9 := ι (F8.out.ext hb)
 have L9 := ι (L8.out.ext hb)
 have B9 := ι (B8.out.trans (hb.mono B8.out.size))
 have HC9 := ι (show CutsAt w9 (.slice cA 1 cc) (idL x.rate x.drop nmA n).cuts from SeqAt.ext HC8.out (Flat.stays _) hb)
 have HAA := ι (show Calls Tryz.prog 23 #[.slice pA 1 pc, .int .i64 m] w9 fun e w' => e = .returned (.tuple #[.int .i64 (atP [pcOf (idC n)] m).1, .bool (atP [pcOf (idC n)] m).2]) ∧ Below w9.heap.size w9 w' from at_any pA pc [pcOf (idC n)] m w9 hpc (fun y hy => by rcases List.mem_singleton.1 hy with rfl; exact show (-9223372036854775808 ≤ (1 : Int) ∧ (1 : Int) ≤ 9223372036854775807) ∧ (-9223372036854775808 ≤ (1 : Int) ∧ (1 : Int) ≤ 9223372036854775807) by decide) (by simp))
 rw [HAT.2] at HAA
 clear hb F8 L8 B8 HC8 HPC hpc HAT
 obtain ⟨an, ab, hQ, hqb, hqn⟩ : ∃ (an : Int) (ab : Bool), (if 0 ≤ m ∧ m < n then (m, true) else ((0 : Int), false)) = (an, ab) ∧ ab = (decide (0 ≤ m) && decide (m < n)) ∧ (ab = true → an = m) := by
  by_cases hf : 0 ≤ m ∧ m < n
  ·rw [if_pos hf]
   exact ⟨m, true, rfl, by rw [decide_eq_true hf.1, decide_eq_true hf.2]; rfl, fun _ => rfl⟩
  rw [if_neg hf]
  refine ⟨0, false, rfl, ?_, fun h => by cases h⟩
  by_cases h1 : 0 ≤ m
  ·rw [decide_eq_false (fun h2 => hf ⟨h1, h2⟩), Bool.and_false]
  rw [decide_eq_false h1, Bool.false_and]
 rw [hQ] at HAA
 have HQB := ι hqb
 have HQN := ι hqn
 clear hqb hqn hQ
 go_wp2_with fail
 refine HAA.out.mono ?_
 rintro e w10 ⟨rfl, hb⟩
 have F10 := ι (F9.out.ext hb)
 have L10 := ι (L9.out.ext hb)
 have B10 := ι (B9.out.trans (hb.mono B9.out.size))
 have HC10 := ι (show CutsAt w10 (.slice cA 1 cc) (idL x.rate x.drop nmA n).cuts from SeqAt.ext HC9.out (Flat.stays _) hb)
 clear hb F9 L9 B9 HC9 HAA
 go_upto_region 11 with fail
 go_cut [81] from 61 to 81 (fun bv wx => bv = .bool false ∧ wx = w10)
 case first =>
  by_cases f1 : 0 ≤ m
  ·by_cases f2 : m < n
   ·have g1 : decide (0 ≤ m) = true := decide_eq_true f1
    have g2 : decide (m < n) = true := decide_eq_true f2
    have hab : ab = true := by rw [HQB.out, g1, g2]; rfl
    have han := HQN.out hab
    subst hab
    subst han
    go_wp2_with fail
    go_meet
    exact ⟨rfl, rfl⟩
   have g1 : decide (0 ≤ m) = true := decide_eq_true f1
   have g2 : decide (m < n) = false := decide_eq_false f2
   have hab : ab = false := by rw [HQB.out, g1, g2]; rfl
   subst hab
   go_wp2_with fail
   go_meet
   exact ⟨rfl, rfl⟩
  have g1 : decide (0 ≤ m) = false := decide_eq_false f1
  have hab : ab = false := by rw [HQB.out, g1]; rfl
  subst hab
  go_wp2_with fail
  go_meet
  exact ⟨rfl, rfl⟩
 case rest =>
 obtain ⟨rfl, rfl⟩ := hcut
 clear HQB HQN
 have q := F10.out.cell
 have ql := L10.out.cell
 unfold Dc.cs at q
 unfold Lst.cs at ql
 have hD10 := F10.out.lt
 have hH10 := L10.out.lt
 go_wp2_with fail
 clear q ql hD10 hH10
 obtain ⟨R, hR⟩ : ∃ R, R = wc.heap.size := ⟨_, rfl⟩
 rw [← hR]
 generalize hw11 : World.alloc wc _ = w11
 have BA : Below wc.heap.size wc w11 := by subst hw11; exact Below.more' _ _
 have R11 := ι (show Held w11 R (.string (sB nmA) :: x.cs (.slice rA yR rc) (.slice eA yE ec) (.slice kA yK kc)) by subst hw11; exact Held.new hR)
 have F11 := ι (F10.out.ext BA)
 have B11 := ι (B10.out.trans (BA.mono B10.out.size))
 have HC11 := ι (show CutsAt w11 (.slice cA 1 cc) (idL x.rate x.drop nmA n).cuts from SeqAt.ext HC10.out (Flat.stays _) BA)
 have HCF := ι (show Calls Tryz.prog 9 #[.slice (some ⟨R, 0, none⟩) 1 1, (idL x.rate x.drop nmA n).v (.slice cA 1 cc), .int .i64 1] w11 (ConfPost (idD x) (idL x.rate x.drop nmA n) w11) from conform_any _ (idD x) (idL x.rate x.drop nmA n) _ 1 w11 (rds_one R11.out (HDA.out.ext B11.out)) (id_rds HXO.out) HC11.out HLO.out (HW.out.on B11.out) (by decide))
 unfold ConfPost at HCF
 clear hw11 BA R11 F10 L10 B10 HC10 HC11 hR
 refine HCF.out.mono ?_
 rintro e w12 ⟨⟨qe, dd, rr, evv, cm, fv, F, rfl, hda2, hfa, hiff, hcp⟩, hb⟩
 have hlen : (rawP (idD x) (idL x.rate x.drop nmA n)).length ≤ 400 := by rw [id_len H0.out H1.out HON.out, ← HYE.out]; have := HXE.out; omega
 have hq0 : qe = 0 := hiff.2 ⟨id_ok H0.out H1.out, hlen⟩
 subst hq0
 obtain ⟨hF, ys, hp, hs, hdd⟩ := hcp rfl
 have HGD := ι (show dcE dd = 0 by rw [hdd]; exact conf_good (id_ok H0.out H1.out) hlen hp hs)
 have HDK := ι (show DcOk dd by rw [hdd]; exact conf_dcok (id_ok H0.out H1.out) (id_rds HXO.out) HLO.out hlen hp)
 have HSW := ι (show shwV dd.regs dd.evs = shwV x.regs x.evs by rw [hdd]; exact id_shw H0.out H1.out HON.out hp)
 have HEL := ι (show dd.evs.length ≤ 1000 by
  have e := congrArg List.length (id_spans H0.out H1.out HON.out)
  rw [List.length_map, List.length_map, ← HYE.out] at e
  rw [hdd]
  show (evsA (rawP (idD x) (idL x.rate x.drop nmA n))).length ≤ 1000
  have := HXE.out
  omega)
 have hFT : F.length = yE ∧ ∀ f ∈ F, f.lost = 0 ∧ f.parts.length = 1 := by rw [hF, HYE.out]; exact id_fates H0.out H1.out HON.out
 obtain ⟨hFl, hFP⟩ := hFT
 have HFP := ι hFP
 have F12 := ι (F11.out.ext hb)
 have B12 := ι (B11.out.trans (hb.mono B11.out.size))
 have hD12 : D < w12.heap.size := F12.out.lt
 obtain ⟨fA, fc, rfl⟩ := hfa.form
 obtain ⟨eA2, ec2, rfl⟩ := hda2.evs.form
 obtain ⟨rA2, rc2, rfl⟩ := hda2.regs.form
 obtain ⟨kA2, kc2, rfl⟩ := hda2.cms.form
 rw [hFl] at hfa ⊢
 have HFA := ι hfa
 have HDA2 := ι hda2
 clear hb F11 B11 HCF hlen hF hp hs hdd hiff hcp hFP hfa hda2 hFl
 generalize dd.regs.length = nR2 at *
 generalize dd.cms.length = nK2 at *
 obtain ⟨nE2, hnE2⟩ : ∃ k, k = dd.evs.length := ⟨_, rfl⟩
 rw [← hnE2] at HDA2 ⊢
 clear hnE2
 rw [show dd.v (.slice rA2 nR2 rc2) (.slice eA2 nE2 ec2) (.slice kA2 nK2 kc2) = .agg #[.string (sB dd.title), .string (sB dd.lang), .int .u8 dd.rate, .bool dd.drop, .int .i64 dd.last, .slice rA2 nR2 rc2, .slice eA2 nE2 ec2, .slice kA2 nK2 kc2] from rfl]
 go_wp2_with fail
 obtain ⟨Y, hY⟩ : ∃ Y, Y = w12.heap.size := ⟨_, rfl⟩
 rw [← hY]
 generalize hw13 : World.alloc w12 _ = w13
 have BA : Below w12.heap.size w12 w13 := by subst hw13; exact Below.more' _ _
 have F13 := ι (F12.out.ext BA)
 have B13 := ι (B12.out.trans (BA.mono B12.out.size))
 have HF13 := ι (show FatesAt w13 (.slice fA yE fc) F from SeqAt.ext HFA.out FtR.stays BA)
 have HS1 := ι (show Calls Tryz.prog 24 #[dd.v (.slice rA2 nR2 rc2) (.slice eA2 nE2 ec2) (.slice kA2 nK2 kc2)] w13 fun e w' => (∃ v, e = .returned (.tuple #[v, .int .i64 0]) ∧ ShI w' w13.heap.size v (shwV x.regs x.evs)) ∧ Below w13.heap.size w13 w' from by
  rw [← HSW.out]
  exact shows_any dd _ _ _ w13 (HDA2.out.ext BA) HDK.out HGD.out HEL.out (HW.out.on B13.out))
 have HS2 := ι (fun W (hb : Below w.heap.size w W) => shows_any x _ _ _ W (HDA.out.ext hb) HXO.out H0.out (by rw [← HYE.out]; have := HXE.out; omega) (HW.out.on hb))
 obtain ⟨SH, hSH⟩ : ∃ s, s = shwV x.regs x.evs := ⟨_, rfl⟩
 rw [← hSH] at HS1 HS2
 have HSG := ι (show ∀ y ∈ SH, y.g.length ≤ 1000000 from shwK_gl (fun f => scrV_len2 x.regs x.evs f) hSH)
 have HSL := ι (show SH.length ≤ 1000 by have := shwV_len x.regs x.evs; rw [hSH]; rw [← HYE.out] at this; have := HXE.out; omega)
 rw [hxv] at HS2
 clear hw13 BA F12 B12 HFA HDA2 HSW HDK HGD HEL hSH hD12 hY
 refine HS1.out.mono ?_
 rintro e w14 ⟨⟨sa, rfl, hsa⟩, hb⟩
 have F14 := ι (F13.out.ext hb)
 have B14 := ι (B13.out.trans (hb.mono B13.out.size))
 have HF14 := ι (show FatesAt w14 (.slice fA yE fc) F from SeqAt.ext HF13.out FtR.stays hb)
 obtain ⟨sA, sac, hsf, _⟩ := OwnS.seq hsa (by decide)
 have hSl := HSL.out
 obtain ⟨nS, hnS⟩ : ∃ k, k = SH.length := ⟨_, rfl⟩
 rw [← hnS] at hsf hSl
 subst hsf
 have HNS := ι hnS
 have HSA := ι hsa
 have q := F14.out.cell
 have hD14 : D < w14.heap.size := F14.out.lt
 unfold Dc.cs at q
 clear hb F13 B13 HF13 HS1 hsa hnS
 go_wp2_with fail
 clear q
 refine (HS2.out w14 B14.out).mono ?_
 rintro e w15 ⟨⟨sb, rfl, hsb⟩, hb⟩
 have F15 := ι (F14.out.ext hb)
 have B15 := ι (B14.out.trans (hb.mono B14.out.size))
 have HF15 := ι (show FatesAt w15 (.slice fA yE fc) F from SeqAt.ext HF14.out FtR.stays hb)
 have HA15 := ι (ShI.ext HSA.out hb)
 obtain ⟨sB', sbc, hsf, _⟩ := OwnS.seq hsb (by decide)
 rw [← HNS.out] at hsf
 subst hsf
 have HB15 := ι hsb
 have q := F15.out.cell
 have hD15 : D < w15.heap.size := F15.out.lt
 unfold Dc.cs at q
 clear hb F14 B14 HF14 HS2 hsb HSA hD14
 go_wp2_with fail
 clear q
 go_loopw [128] (fun iv wr => ∃ k : Nat, iv = .int .i64 k ∧ k ≤ nS ∧ Hid (Below w15.heap.size w15 wr)) (fun iv _ => nS - (intOf iv).toNat)
 case atStart => exact ⟨0, rfl, Nat.zero_le _, ι (Below.refl _ _)⟩
 case round =>
 obtain ⟨k, rfl, hk, BR⟩ := hrel
 by_cases hlt : k < nS
 ·have hlt2 : (k : Int) < (nS : Int) := by omega
  obtain ⟨y, hy⟩ : ∃ y, SH[k]? = some y := ⟨_, List.getElem?_eq_getElem (by have := HNS.out; omega)⟩
  obtain ⟨ga, g1, gc1, rfl, hga, a0, a1, a2, k1⟩ := ShI.get (ShI.ext HA15.out BR.out) hy
  obtain ⟨gb, g2, gc2, rfl, hgb, b0, b1, b2, k2⟩ := ShI.get (ShI.ext HB15.out BR.out) hy
  have hyl := HSG.out y (List.mem_of_getElem? hy)
  obtain ⟨yi, yo, yg⟩ := y
  dsimp only at a0 a1 a2 b0 b1 b2 k1 k2 hyl
  obtain ⟨ng, hng⟩ : ∃ n, n = yg.length := ⟨_, rfl⟩
  obtain ⟨N, hN⟩ : ∃ N, N = wr.heap.size := ⟨_, rfl⟩
  have HSM := ι (show ∀ W, Below N wr W → Calls Tryz.prog 17 #[.slice g1 ng gc1, .slice g2 ng gc2] W fun e w' => e = .returned (.bool true) ∧ Below W.heap.size W w' from fun W hb => by
   rw [hN] at hb
   rw [hng]
   have k := same_any _ _ yg yg W (SeqT.keep (S := IsGl) k1 rfl (KeepS.ext hb) (fun _ _ h => h)).at (SeqT.keep (S := IsGl) k2 rfl (KeepS.ext hb) (fun _ _ h => h)).at hyl
   rw [decide_eq_true (rfl : yg = yg)] at k
   exact k)
  rw [← hng] at a2 b2
  rw [← hN] at hga hgb
  have HN := ι hN
  have HSZ := ι (show ∀ w', Below N wr w' → N ≤ w'.heap.size from fun w' h => by have := h.size; omega)
  clear hng hN hy k1 k2 hyl
  go_wp2_with fail
  refine wp_region_spec (by kernel_rfl) (fun w' => Below N wr w') (PhiTi ga gb k nS sac sbc ng gc1 gc2 g1 g2 yi yo) 179 rfl (by kernel_rfl) (Below.refl _ _).drew ?hops ?hend
  case hops =>
   refine ⟨?o0, ?o1, ?o2, ?o3, ?o4, ?o5, ?o6, ?o7, ?o8, ?o9, ?o10, ?o11, ?o12, ?o13, ?o14, ?o15, ?o16, ?o17, ?o18, ?o19, ?o20, ?o21, ?o22, ?o23, ?o24, trivial⟩
   case o0 =>
    intro ev w8 hI δ φ
    have a14 : ev 14 = .slice (some ⟨ga, 0, none⟩) nS sac := φ 14 (by kernel_rfl)
    clear δ φ
    try dsimp only
    simp [OpRuns, execOp, evalOf, a14, go_sem]
    exact ⟨hI, rfl, trivial⟩
   case o1 =>
    intro ev w8 hI δ φ
    have a18 : ev 18 = .int .i64 (k : Int) := φ 18 (by kernel_rfl)
    clear δ φ
    try dsimp only
    simp [OpRuns, execOp, evalOf, a18, go_sem]
    exact ⟨hI, rfl, trivial⟩
   case o2 =>
    intro ev w8 hI δ φ
    have a131 : ev 131 = .slice (some ⟨ga, 0, none⟩) nS sac := (δ 0 131 (by kernel_rfl) rfl).1
    have a132 : ev 132 = .int .i64 (k : Int) := (δ 1 132 (by kernel_rfl) rfl).1
    clear δ φ
    try dsimp only
    simp [OpRuns, execOp, evalOf, a131, a132, hlt, go_sem]
    exact ⟨hI, rfl, trivial⟩
   case o3 =>
    intro ev w8 hI δ φ
    have a133 : ev 133 = .pointer (some ⟨ga, k * 3, none⟩) := (δ 2 133 (by kernel_rfl) rfl).1
    clear δ φ
    try dsimp only
    simp [OpRuns, execOp, evalOf, a133, go_sem]
    exact ⟨hI, rfl, trivial⟩
   case o4 =>
    intro ev w8 hI δ φ
    have a134 : ev 134 = .pointer (some ⟨ga, k * 3, none⟩) := (δ 3 134 (by kernel_rfl) rfl).1
    have y0 : w8.cell? ⟨ga, k * 3, none⟩ = some (.int .i64 yi) := (hI.cell (p := ⟨ga, k * 3, none⟩) hga).trans a0
    have y1 : w8.cell? ⟨ga, k * 3 + 1, none⟩ = some (.int .i64 yo) := (hI.cell (p := ⟨ga, k * 3 + 1, none⟩) hga).trans a1
    clear δ φ
    try dsimp only
    simp [OpRuns, execOp, evalOf, a134, y0, y1, go_sem]
    exact ⟨hI, rfl, trivial⟩
   case o5 =>
    intro ev w8 hI δ φ
    have a16 : ev 16 = .slice (some ⟨gb, 0, none⟩) nS sbc := φ 16 (by kernel_rfl)
    clear δ φ
    try dsimp only
    simp [OpRuns, execOp, evalOf, a16, go_sem]
    exact ⟨hI, rfl, trivial⟩
   case o6 =>
    intro ev w8 hI δ φ
    have a18 : ev 18 = .int .i64 (k : Int) := φ 18 (by kernel_rfl)
    clear δ φ
    try dsimp only
    simp [OpRuns, execOp, evalOf, a18, go_sem]
    exact ⟨hI, rfl, trivial⟩
   case o7 =>
    intro ev w8 hI δ φ
    have a136 : ev 136 = .slice (some ⟨gb, 0, none⟩) nS sbc := (δ 5 136 (by kernel_rfl) rfl).1
    have a137 : ev 137 = .int .i64 (k : Int) := (δ 6 137 (by kernel_rfl) rfl).1
    clear δ φ
    try dsimp only
    simp [OpRuns, execOp, evalOf, a136, a137, hlt, go_sem]
    exact ⟨hI, rfl, trivial⟩
   case o8 =>
    intro ev w8 hI δ φ
    have a138 : ev 138 = .pointer (some ⟨gb, k * 3, none⟩) := (δ 7 138 (by kernel_rfl) rfl).1
    clear δ φ
    try dsimp only
    simp [OpRuns, execOp, evalOf, a138, go_sem]
    exact ⟨hI, rfl, trivial⟩
   case o9 =>
    intro ev w8 hI δ φ
    have a139 : ev 139 = .pointer (some ⟨gb, k * 3, none⟩) := (δ 8 139 (by kernel_rfl) rfl).1
    have y0 : w8.cell? ⟨gb, k * 3, none⟩ = some (.int .i64 yi) := (hI.cell (p := ⟨gb, k * 3, none⟩) hgb).trans b0
    have y1 : w8.cell? ⟨gb, k * 3 + 1, none⟩ = some (.int .i64 yo) := (hI.cell (p := ⟨gb, k * 3 + 1, none⟩) hgb).trans b1
    clear δ φ
    try dsimp only
    simp [OpRuns, execOp, evalOf, a139, y0, y1, go_sem]
    exact ⟨hI, rfl, trivial⟩
   case o10 =>
    intro ev w8 hI δ φ
    have a135 : ev 135 = .agg #[.int .i64 yi, .int .i64 yo] := (δ 4 135 (by kernel_rfl) rfl).1
    have a140 : ev 140 = .agg #[.int .i64 yi, .int .i64 yo] := (δ 9 140 (by kernel_rfl) rfl).1
    clear δ φ
    try dsimp only
    simp [OpRuns, execOp, evalOf, a135, a140, go_sem]
    exact ⟨hI, rfl, trivial⟩
   case o11 =>
    intro ev w8 hI δ φ
    have a141 : ev 141 = .bool (false) := (δ 10 141 (by kernel_rfl) rfl).1
    clear δ φ
    try dsimp only
    simp [OpRuns, execOp, evalOf, a141, go_sem]
    exact ⟨hI, rfl, trivial⟩
   case o12 =>
    intro ev w8 hI δ φ
    have ag : ev 142 = .bool false := (δ 11 142 (by kernel_rfl) rfl).1
    refine γ ag rfl (fun hR => ?_) fun hn d hd => by cases hd; exact ⟨⟨fun hr => absurd hr hn, fun _ => rfl⟩, trivial⟩
    clear ag
    have a14 : ev 14 = .slice (some ⟨ga, 0, none⟩) nS sac := φ 14 (by kernel_rfl)
    clear δ φ
    try dsimp only
    simp [OpRuns, execOp, evalOf, a14, go_sem]
    exact ⟨hI, ⟨fun _ => rfl, fun h => absurd hR h⟩, trivial⟩
   case o13 =>
    intro ev w8 hI δ φ
    have ag : ev 142 = .bool false := (δ 11 142 (by kernel_rfl) rfl).1
    refine γ ag rfl (fun hR => ?_) fun hn d hd => by cases hd; exact ⟨⟨fun hr => absurd hr hn, fun _ => rfl⟩, trivial⟩
    clear ag
    have a18 : ev 18 = .int .i64 (k : Int) := φ 18 (by kernel_rfl)
    clear δ φ
    try dsimp only
    simp [OpRuns, execOp, evalOf, a18, go_sem]
    exact ⟨hI, ⟨fun _ => rfl, fun h => absurd hR h⟩, trivial⟩
   case o14 =>
    intro ev w8 hI δ φ
    have ag : ev 142 = .bool false := (δ 11 142 (by kernel_rfl) rfl).1
    refine γ ag rfl (fun hR => ?_) fun hn d hd => by cases hd; exact ⟨⟨fun hr => absurd hr hn, fun _ => rfl⟩, trivial⟩
    clear ag
    have a143 : ev 143 = .slice (some ⟨ga, 0, none⟩) nS sac := (δ 12 143 (by kernel_rfl) rfl).1.1 hR
    have a144 : ev 144 = .int .i64 (k : Int) := (δ 13 144 (by kernel_rfl) rfl).1.1 hR
    clear δ φ
    try dsimp only
    simp [OpRuns, execOp, evalOf, a143, a144, hlt, go_sem]
    exact ⟨hI, ⟨fun _ => rfl, fun h => absurd hR h⟩, trivial⟩
   case o15 =>
    intro ev w8 hI δ φ
    have ag : ev 142 = .bool false := (δ 11 142 (by kernel_rfl) rfl).1
    refine γ ag rfl (fun hR => ?_) fun hn d hd => by cases hd; exact ⟨⟨fun hr => absurd hr hn, fun _ => rfl⟩, trivial⟩
    clear ag
    have a145 : ev 145 = .pointer (some ⟨ga, k * 3, none⟩) := (δ 14 145 (by kernel_rfl) rfl).1.1 hR
    clear δ φ
    try dsimp only
    simp [OpRuns, execOp, evalOf, a145, go_sem]
    exact ⟨hI, ⟨fun _ => rfl, fun h => absurd hR h⟩, trivial⟩
   case o16 =>
    intro ev w8 hI δ φ
    have ag : ev 142 = .bool false := (δ 11 142 (by kernel_rfl) rfl).1
    refine γ ag rfl (fun hR => ?_) fun hn d hd => by cases hd; exact ⟨⟨fun hr => absurd hr hn, fun _ => rfl⟩, trivial⟩
    clear ag
    have a146 : ev 146 = .pointer (some ⟨ga, k * 3 + 2, none⟩) := (δ 15 146 (by kernel_rfl) rfl).1.1 hR
    have y0 : w8.cell? ⟨ga, k * 3 + 2, none⟩ = some (.slice g1 ng gc1) := (hI.cell (p := ⟨ga, k * 3 + 2, none⟩) hga).trans a2
    clear δ φ
    try dsimp only
    simp [OpRuns, execOp, evalOf, a146, y0, go_sem]
    exact ⟨hI, ⟨fun _ => rfl, fun h => absurd hR h⟩, trivial⟩
   case o17 =>
    intro ev w8 hI δ φ
    have ag : ev 142 = .bool false := (δ 11 142 (by kernel_rfl) rfl).1
    refine γ ag rfl (fun hR => ?_) fun hn d hd => by cases hd; exact ⟨⟨fun hr => absurd hr hn, fun _ => rfl⟩, trivial⟩
    clear ag
    have a16 : ev 16 = .slice (some ⟨gb, 0, none⟩) nS sbc := φ 16 (by kernel_rfl)
    clear δ φ
    try dsimp only
    simp [OpRuns, execOp, evalOf, a16, go_sem]
    exact ⟨hI, ⟨fun _ => rfl, fun h => absurd hR h⟩, trivial⟩
   case o18 =>
    intro ev w8 hI δ φ
    have ag : ev 142 = .bool false := (δ 11 142 (by kernel_rfl) rfl).1
    refine γ ag rfl (fun hR => ?_) fun hn d hd => by cases hd; exact ⟨⟨fun hr => absurd hr hn, fun _ => rfl⟩, trivial⟩
    clear ag
    have a18 : ev 18 = .int .i64 (k : Int) := φ 18 (by kernel_rfl)
    clear δ φ
    try dsimp only
    simp [OpRuns, execOp, evalOf, a18, go_sem]
    exact ⟨hI, ⟨fun _ => rfl, fun h => absurd hR h⟩, trivial⟩
   case o19 =>
    intro ev w8 hI δ φ
    have ag : ev 142 = .bool false := (δ 11 142 (by kernel_rfl) rfl).1
    refine γ ag rfl (fun hR => ?_) fun hn d hd => by cases hd; exact ⟨⟨fun hr => absurd hr hn, fun _ => rfl⟩, trivial⟩
    clear ag
    have a148 : ev 148 = .slice (some ⟨gb, 0, none⟩) nS sbc := (δ 17 148 (by kernel_rfl) rfl).1.1 hR
    have a149 : ev 149 = .int .i64 (k : Int) := (δ 18 149 (by kernel_rfl) rfl).1.1 hR
    clear δ φ
    try dsimp only
    simp [OpRuns, execOp, evalOf, a148, a149, hlt, go_sem]
    exact ⟨hI, ⟨fun _ => rfl, fun h => absurd hR h⟩, trivial⟩
   case o20 =>
    intro ev w8 hI δ φ
    have ag : ev 142 = .bool false := (δ 11 142 (by kernel_rfl) rfl).1
    refine γ ag rfl (fun hR => ?_) fun hn d hd => by cases hd; exact ⟨⟨fun hr => absurd hr hn, fun _ => rfl⟩, trivial⟩
    clear ag
    have a150 : ev 150 = .pointer (some ⟨gb, k * 3, none⟩) := (δ 19 150 (by kernel_rfl) rfl).1.1 hR
    clear δ φ
    try dsimp only
    simp [OpRuns, execOp, evalOf, a150, go_sem]
    exact ⟨hI, ⟨fun _ => rfl, fun h => absurd hR h⟩, trivial⟩
   case o21 =>
    intro ev w8 hI δ φ
    have ag : ev 142 = .bool false := (δ 11 142 (by kernel_rfl) rfl).1
    refine γ ag rfl (fun hR => ?_) fun hn d hd => by cases hd; exact ⟨⟨fun hr => absurd hr hn, fun _ => rfl⟩, trivial⟩
    clear ag
    have a151 : ev 151 = .pointer (some ⟨gb, k * 3 + 2, none⟩) := (δ 20 151 (by kernel_rfl) rfl).1.1 hR
    have y0 : w8.cell? ⟨gb, k * 3 + 2, none⟩ = some (.slice g2 ng gc2) := (hI.cell (p := ⟨gb, k * 3 + 2, none⟩) hgb).trans b2
    clear δ φ
    try dsimp only
    simp [OpRuns, execOp, evalOf, a151, y0, go_sem]
    exact ⟨hI, ⟨fun _ => rfl, fun h => absurd hR h⟩, trivial⟩
   case o22 =>
    intro ev w8 hI δ φ
    have ag : ev 142 = .bool false := (δ 11 142 (by kernel_rfl) rfl).1
    refine γ ag rfl (fun hR => ?_) fun hn d hd => by cases hd; exact ⟨⟨fun hr => absurd hr hn, fun _ => rfl⟩, trivial⟩
    clear ag
    have a147 : ev 147 = .slice g1 ng gc1 := (δ 16 147 (by kernel_rfl) rfl).1.1 hR
    have a152 : ev 152 = .slice g2 ng gc2 := (δ 21 152 (by kernel_rfl) rfl).1.1 hR
    clear δ φ
    try dsimp only
    refine runs_call (f := 17) (args := #[.slice g1 ng gc1, .slice g2 ng gc2]) (by simp [execOp, evalOf, resolve, invoke, a147, a152, go_sem]) ((HSM.out w8 hI).mono ?_)
    rintro e w9 ⟨he, hb⟩
    exact ⟨_, he, hI.trans (hb.mono (HSZ.out w8 hI)), PhiTi.ext ga gb k nS sac sbc ng gc1 gc2 g1 g2 yi yo hb, fun d hd => by cases hd; exact ⟨⟨fun _ => rfl, fun h => absurd hR h⟩, trivial⟩⟩
   case o23 =>
    intro ev w8 hI δ φ
    have ag : ev 142 = .bool false := (δ 11 142 (by kernel_rfl) rfl).1
    refine γ ag rfl (fun hR => ?_) fun hn d hd => by cases hd; exact ⟨⟨fun hr => absurd hr hn, fun _ => rfl⟩, trivial⟩
    clear ag
    have a153 : ev 153 = .bool true := (δ 22 153 (by kernel_rfl) rfl).1.1 hR
    clear δ φ
    try dsimp only
    simp [OpRuns, execOp, evalOf, a153, go_sem]
    exact ⟨hI, ⟨fun _ => rfl, fun h => absurd hR h⟩, trivial⟩
   case o24 =>
   intro ev w8 hI δ φ
   have a142 : ev 142 = .bool (false) := (δ 11 142 (by kernel_rfl) rfl).1
   have ax : false = false → ev 154 = .bool (!true) := fun hc => (δ 23 154 (by kernel_rfl) rfl).1.1 hc
   clear δ φ
   obtain ⟨cc, hcc⟩ : ∃ cc, cc = false := ⟨_, rfl⟩
   rw [← hcc] at a142
   cases cc with
   | true =>
    clear ax
    have hv : Value.bool true = (Value.bool (false || (!true))) := by rw [← hcc]; simp
    clear hcc
    try dsimp only
    simp [OpRuns, execOp, evalOf, a142, go_sem]
    exact ⟨hI, hv, trivial⟩
   | false =>
    have ax := ax hcc.symm
    have hv : (Value.bool (!true)) = (Value.bool (false || (!true))) := by rw [← hcc]; simp
    clear hcc
    try dsimp only
    simp [OpRuns, execOp, evalOf, a142, ax, go_sem]
    exact ⟨hI, hv, trivial⟩
  case hend =>
  intro a w6 hdf hsz hI hPhi κ
  replace hdf : a.defers = [] := hdf
  replace hsz : a.tmps.size = 179 := hsz
  have x155 : a.tmps.getD 155 undef = .bool (false || (!true)) := (hPhi 24 155 (by kernel_rfl)).1
  have x0 := κA κ 0 (Value.agg #[Value.string (sB d.title), Value.string (sB d.lang), Value.int IntKind.u8 d.rate, Value.bool d.drop, Value.int IntKind.i64 d.last, Value.slice A1 nR c1, Value.slice A nE c, Value.slice A2 nK c2]) rfl rfl
  have x1 := κA κ 1 (Value.int IntKind.i64 n) rfl rfl
  have x2 := κA κ 2 (Value.int IntKind.i64 m) rfl rfl
  have x3 := κA κ 3 (Value.pointer (some { block := D, off := 0 })) rfl rfl
  have x4 := κA κ 4 (undef) rfl rfl
  have x5 := κA κ 5 (undef) rfl rfl
  have x6 := κA κ 6 (u6) rfl rfl
  have x7 := κA κ 7 (Value.pointer (some { block := H, off := 0 })) rfl rfl
  have x8 := κA κ 8 (Value.int IntKind.i64 0) rfl rfl
  have x9 := κA κ 9 (Value.slice pA 1 pc) rfl rfl
  have x10 := κA κ 10 (Value.int IntKind.i64 an) rfl rfl
  have x11 := κA κ 11 (Value.bool ab) rfl rfl
  have x12 := κA κ 12 (Value.pointer (some { block := Y, off := 0 })) rfl rfl
  have x13 := κA κ 13 (Value.slice fA yE fc) rfl rfl
  have x14 := κA κ 14 (Value.slice (some { block := ga, off := 0 }) nS sac) rfl rfl
  have x15 := κA κ 15 (Value.int IntKind.i64 0) rfl rfl
  have x16 := κA κ 16 (Value.slice (some { block := gb, off := 0 }) nS sbc) rfl rfl
  have x17 := κA κ 17 (Value.int IntKind.i64 0) rfl rfl
  have x18 := κA κ 18 (Value.int IntKind.i64 (↑k : Int)) rfl rfl
  have x19 := κA κ 19 (undef) rfl rfl
  have x20 := κA κ 20 (undef) rfl rfl
  have x21 := κA κ 21 (Value.agg #[Value.int IntKind.i64 0, Value.int IntKind.i64 7]) rfl rfl
  have x22 := κA κ 22 (Value.agg #[Value.int IntKind.i64 0, Value.string { data := #[] }, Value.int IntKind.i64 0, Value.int IntKind.i64 0, Value.int IntKind.i64 7, Value.int IntKind.i64 0, Value.int IntKind.i64 0]) rfl rfl
  have x23 := κA κ 23 (Value.slice (some { block := D + 1, off := 0 }) 1 1) rfl rfl
  have x24 := κA κ 24 (Value.agg #[Value.string { data := #[] }, Value.int IntKind.u8 0, Value.bool false, Value.slice (some { block := D + 1, off := 0 }) 1 1]) rfl rfl
  have x25 := κA κ 25 (Value.int IntKind.i64 7) rfl rfl
  have x26 := κA κ 26 (Value.bool false) rfl rfl
  have x27 := κA κ 27 (Value.agg #[Value.string (sB d.title), Value.string (sB d.lang), Value.int IntKind.u8 d.rate, Value.bool d.drop, Value.int IntKind.i64 d.last, Value.slice A1 nR c1, Value.slice A nE c, Value.slice A2 nK c2]) rfl rfl
  have x28 := κA κ 28 (Value.agg #[Value.string (sB x.title), Value.string (sB x.lang), Value.int IntKind.u8 x.rate, Value.bool x.drop, Value.int IntKind.i64 x.last, Value.slice rA yR rc, Value.slice eA yE ec, Value.slice kA yK kc]) rfl rfl
  have x29 := κA κ 29 (Value.agg #[Value.string (sB x.title), Value.string (sB x.lang), Value.int IntKind.u8 x.rate, Value.bool x.drop, Value.int IntKind.i64 x.last, Value.slice rA yR rc, Value.slice eA yE ec, Value.slice kA yK kc]) rfl rfl
  have x30 := κA κ 30 (Value.int IntKind.i64 0) rfl rfl
  have x31 := κA κ 31 (Value.bool false) rfl rfl
  have x32 := κA κ 32 (Value.bool false) rfl rfl
  have x33 := κA κ 33 (Value.agg #[Value.string (sB x.title), Value.string (sB x.lang), Value.int IntKind.u8 x.rate, Value.bool x.drop, Value.int IntKind.i64 x.last, Value.slice rA yR rc, Value.slice eA yE ec, Value.slice kA yK kc]) rfl rfl
  have x34 := κA κ 34 (Value.agg #[Value.int IntKind.i64 si, Value.int IntKind.i64 so]) rfl rfl
  have x35 := κA κ 35 (Value.int IntKind.i64 so) rfl rfl
  have x36 := κA κ 36 (Value.int IntKind.i64 n) rfl rfl
  have x37 := κA κ 37 (Value.bool false) rfl rfl
  have x38 := κA κ 38 (Value.bool false) rfl rfl
  have x39 := κA κ 39 (Value.tuple #[Value.agg #[Value.string (sB (idL x.rate x.drop nmA n).title), Value.int IntKind.u8 (idL x.rate x.drop nmA n).rate, Value.bool (idL x.rate x.drop nmA n).drop, Value.slice cA (idL x.rate x.drop nmA n).cuts.length cc], Value.int IntKind.i64 0]) rfl rfl
  have x40 := κA κ 40 (Value.pointer (some { block := D, off := 2 })) rfl rfl
  have x41 := κA κ 41 (Value.int IntKind.u8 x.rate) rfl rfl
  have x42 := κA κ 42 (Value.pointer (some { block := D, off := 3 })) rfl rfl
  have x43 := κA κ 43 (Value.bool x.drop) rfl rfl
  have x44 := κA κ 44 (Value.int IntKind.i64 n) rfl rfl
  have x45 := κA κ 45 (Value.tuple #[Value.agg #[Value.string (sB (idL x.rate x.drop nmA n).title), Value.int IntKind.u8 (idL x.rate x.drop nmA n).rate, Value.bool (idL x.rate x.drop nmA n).drop, Value.slice cA (idL x.rate x.drop nmA n).cuts.length cc], Value.int IntKind.i64 0]) rfl rfl
  have x46 := κA κ 46 (Value.agg #[Value.string (sB (idL x.rate x.drop nmA n).title), Value.int IntKind.u8 (idL x.rate x.drop nmA n).rate, Value.bool (idL x.rate x.drop nmA n).drop, Value.slice cA (idL x.rate x.drop nmA n).cuts.length cc]) rfl rfl
  have x47 := κA κ 47 (Value.int IntKind.i64 0) rfl rfl
  have x48 := κA κ 48 (Value.int IntKind.i64 0) rfl rfl
  have x49 := κA κ 49 (Value.bool false) rfl rfl
  have x50 := κA κ 50 (Value.tuple #[Value.slice pA 1 pc, Value.int IntKind.i64 0]) rfl rfl
  have x51 := κA κ 51 (Value.agg #[Value.string (sB (idL x.rate x.drop nmA n).title), Value.int IntKind.u8 (idL x.rate x.drop nmA n).rate, Value.bool (idL x.rate x.drop nmA n).drop, Value.slice cA (idL x.rate x.drop nmA n).cuts.length cc]) rfl rfl
  have x52 := κA κ 52 (Value.tuple #[Value.slice pA 1 pc, Value.int IntKind.i64 0]) rfl rfl
  have x53 := κA κ 53 (Value.slice pA 1 pc) rfl rfl
  have x54 := κA κ 54 (Value.int IntKind.i64 0) rfl rfl
  have x55 := κA κ 55 (Value.tuple #[Value.int IntKind.i64 an, Value.bool ab]) rfl rfl
  have x56 := κA κ 56 (Value.slice pA 1 pc) rfl rfl
  have x57 := κA κ 57 (Value.int IntKind.i64 m) rfl rfl
  have x58 := κA κ 58 (Value.tuple #[Value.int IntKind.i64 an, Value.bool ab]) rfl rfl
  have x59 := κA κ 59 (Value.int IntKind.i64 an) rfl rfl
  have x60 := κA κ 60 (Value.bool ab) rfl rfl
  have x61 := κA κ 61 (u61) rfl rfl
  have x62 := κA κ 62 (u62) rfl rfl
  have x63 := κA κ 63 (u63) rfl rfl
  have x64 := κA κ 64 (u64) rfl rfl
  have x65 := κA κ 65 (u65) rfl rfl
  have x66 := κA κ 66 (u66) rfl rfl
  have x67 := κA κ 67 (u67) rfl rfl
  have x68 := κA κ 68 (u68) rfl rfl
  have x69 := κA κ 69 (u69) rfl rfl
  have x70 := κA κ 70 (u70) rfl rfl
  have x71 := κA κ 71 (u71) rfl rfl
  have x72 := κA κ 72 (u72) rfl rfl
  have x73 := κA κ 73 (u73) rfl rfl
  have x74 := κA κ 74 (u74) rfl rfl
  have x75 := κA κ 75 (u75) rfl rfl
  have x76 := κA κ 76 (u76) rfl rfl
  have x77 := κA κ 77 (u77) rfl rfl
  have x78 := κA κ 78 (u78) rfl rfl
  have x79 := κA κ 79 (u79) rfl rfl
  have x80 := κA κ 80 (u80) rfl rfl
  have x81 := κA κ 81 (Value.bool false) rfl rfl
  have x82 := κA κ 82 (Value.tuple #[Value.agg #[Value.string (sB dd.title), Value.string (sB dd.lang), Value.int IntKind.u8 dd.rate, Value.bool dd.drop, Value.int IntKind.i64 dd.last, Value.slice rA2 nR2 rc2, Value.slice eA2 nE2 ec2, Value.slice kA2 nK2 kc2], Value.slice fA yE fc, Value.int IntKind.i64 0]) rfl rfl
  have x83 := κA κ 83 (Value.agg #[Value.string (sB x.title), Value.string (sB x.lang), Value.int IntKind.u8 x.rate, Value.bool x.drop, Value.int IntKind.i64 x.last, Value.slice rA yR rc, Value.slice eA yE ec, Value.slice kA yK kc]) rfl rfl
  have x84 := κA κ 84 (Value.agg #[Value.string { data := #[65] }, Value.string (sB x.title), Value.string (sB x.lang), Value.int IntKind.u8 x.rate, Value.bool x.drop, Value.int IntKind.i64 x.last, Value.slice rA yR rc, Value.slice eA yE ec, Value.slice kA yK kc]) rfl rfl
  have x85 := κA κ 85 (Value.slice (some { block := R, off := 0 }) 1 1) rfl rfl
  have x86 := κA κ 86 (Value.agg #[Value.string (sB (idL x.rate x.drop nmA n).title), Value.int IntKind.u8 (idL x.rate x.drop nmA n).rate, Value.bool (idL x.rate x.drop nmA n).drop, Value.slice cA 1 cc]) rfl rfl
  have x87 := κA κ 87 (Value.tuple #[Value.agg #[Value.string (sB dd.title), Value.string (sB dd.lang), Value.int IntKind.u8 dd.rate, Value.bool dd.drop, Value.int IntKind.i64 dd.last, Value.slice rA2 nR2 rc2, Value.slice eA2 nE2 ec2, Value.slice kA2 nK2 kc2], Value.slice fA yE fc, Value.int IntKind.i64 0]) rfl rfl
  have x88 := κA κ 88 (Value.agg #[Value.string (sB dd.title), Value.string (sB dd.lang), Value.int IntKind.u8 dd.rate, Value.bool dd.drop, Value.int IntKind.i64 dd.last, Value.slice rA2 nR2 rc2, Value.slice eA2 nE2 ec2, Value.slice kA2 nK2 kc2]) rfl rfl
  have x89 := κA κ 89 (Value.slice fA yE fc) rfl rfl
  have x90 := κA κ 90 (Value.int IntKind.i64 0) rfl rfl
  have x91 := κA κ 91 (Value.tuple #[Value.slice (some { block := ga, off := 0 }) nS sac, Value.int IntKind.i64 0]) rfl rfl
  have x92 := κA κ 92 (Value.agg #[Value.string (sB dd.title), Value.string (sB dd.lang), Value.int IntKind.u8 dd.rate, Value.bool dd.drop, Value.int IntKind.i64 dd.last, Value.slice rA2 nR2 rc2, Value.slice eA2 nE2 ec2, Value.slice kA2 nK2 kc2]) rfl rfl
  have x93 := κA κ 93 (Value.tuple #[Value.slice (some { block := ga, off := 0 }) nS sac, Value.int IntKind.i64 0]) rfl rfl
  have x94 := κA κ 94 (Value.slice (some { block := ga, off := 0 }) nS sac) rfl rfl
  have x95 := κA κ 95 (Value.int IntKind.i64 0) rfl rfl
  have x96 := κA κ 96 (Value.tuple #[Value.slice (some { block := gb, off := 0 }) nS sbc, Value.int IntKind.i64 0]) rfl rfl
  have x97 := κA κ 97 (Value.agg #[Value.string (sB x.title), Value.string (sB x.lang), Value.int IntKind.u8 x.rate, Value.bool x.drop, Value.int IntKind.i64 x.last, Value.slice rA yR rc, Value.slice eA yE ec, Value.slice kA yK kc]) rfl rfl
  have x98 := κA κ 98 (Value.tuple #[Value.slice (some { block := gb, off := 0 }) nS sbc, Value.int IntKind.i64 0]) rfl rfl
  have x99 := κA κ 99 (Value.slice (some { block := gb, off := 0 }) nS sbc) rfl rfl
  have x100 := κA κ 100 (Value.int IntKind.i64 0) rfl rfl
  have x101 := κA κ 101 (Value.int IntKind.i64 0) rfl rfl
  have x102 := κA κ 102 (Value.bool false) rfl rfl
  have x103 := κA κ 103 (Value.bool false) rfl rfl
  have x104 := κA κ 104 (Value.int IntKind.i64 0) rfl rfl
  have x105 := κA κ 105 (Value.bool false) rfl rfl
  have x106 := κA κ 106 (Value.bool false) rfl rfl
  have x107 := κA κ 107 (Value.bool false) rfl rfl
  have x108 := κA κ 108 (Value.int IntKind.i64 0) rfl rfl
  have x109 := κA κ 109 (Value.bool false) rfl rfl
  have x110 := κA κ 110 (Value.bool false) rfl rfl
  have x111 := κA κ 111 (Value.bool false) rfl rfl
  have x112 := κA κ 112 (Value.slice (some { block := ga, off := 0 }) nS sac) rfl rfl
  have x113 := κA κ 113 (Value.int IntKind.i64 (↑nS : Int)) rfl rfl
  have x114 := κA κ 114 (Value.slice (some { block := gb, off := 0 }) nS sbc) rfl rfl
  have x115 := κA κ 115 (Value.int IntKind.i64 (↑nS : Int)) rfl rfl
  have x116 := κA κ 116 (Value.bool false) rfl rfl
  have x117 := κA κ 117 (Value.bool false) rfl rfl
  have x118 := κA κ 118 (Value.bool false) rfl rfl
  have x119 := κA κ 119 (Value.slice fA yE fc) rfl rfl
  have x120 := κA κ 120 (Value.int IntKind.i64 (↑yE : Int)) rfl rfl
  have x121 := κA κ 121 (Value.pointer (some { block := D, off := 6 })) rfl rfl
  have x122 := κA κ 122 (Value.slice eA yE ec) rfl rfl
  have x123 := κA κ 123 (Value.int IntKind.i64 (↑yE : Int)) rfl rfl
  have x124 := κA κ 124 (Value.bool false) rfl rfl
  have x125 := κA κ 125 (Value.bool false) rfl rfl
  have x126 := κA κ 126 (Value.slice (some { block := ga, off := 0 }) nS sac) rfl rfl
  have x127 := κA κ 127 (Value.int IntKind.i64 (↑nS : Int)) rfl rfl
  have x128 := κA κ 128 (Value.int IntKind.i64 (↑k : Int)) rfl rfl
  have x129 := κA κ 129 (Value.bool true) rfl rfl
  have x130 := κA κ 130 (Value.int IntKind.i64 (↑k : Int)) rfl rfl
  have x156 := κA κ 156 (u156) rfl rfl
  have x157 := κA κ 157 (undef) rfl rfl
  have x158 := κA κ 158 (undef) rfl rfl
  have x159 := κA κ 159 (undef) rfl rfl
  have x160 := κA κ 160 (undef) rfl rfl
  have x161 := κA κ 161 (undef) rfl rfl
  have x162 := κA κ 162 (undef) rfl rfl
  have x163 := κA κ 163 (undef) rfl rfl
  have x164 := κA κ 164 (undef) rfl rfl
  have x165 := κA κ 165 (undef) rfl rfl
  have x166 := κA κ 166 (undef) rfl rfl
  have x167 := κA κ 167 (undef) rfl rfl
  have x168 := κA κ 168 (undef) rfl rfl
  have x169 := κA κ 169 (undef) rfl rfl
  have x170 := κA κ 170 (undef) rfl rfl
  have x171 := κA κ 171 (undef) rfl rfl
  have x172 := κA κ 172 (undef) rfl rfl
  have x173 := κA κ 173 (undef) rfl rfl
  have x174 := κA κ 174 (undef) rfl rfl
  have x175 := κA κ 175 (undef) rfl rfl
  have x176 := κA κ 176 (undef) rfl rfl
  have x177 := κA κ 177 (undef) rfl rfl
  have x178 := κA κ 178 (undef) rfl rfl
  have ea := act_lit hsz hdf
  simp only [getDs] at ea
  rw [x155, x0, x1, x2, x3, x4, x5, x6, x7, x8, x9, x10, x11, x12, x13, x14, x15, x16, x17, x18, x19, x20, x21, x22, x23, x24, x25, x26, x27, x28, x29, x30, x31, x32, x33, x34, x35, x36, x37, x38, x39, x40, x41, x42, x43, x44, x45, x46, x47, x48, x49, x50, x51, x52, x53, x54, x55, x56, x57, x58, x59, x60, x61, x62, x63, x64, x65, x66, x67, x68, x69, x70, x71, x72, x73, x74, x75, x76, x77, x78, x79, x80, x81, x82, x83, x84, x85, x86, x87, x88, x89, x90, x91, x92, x93, x94, x95, x96, x97, x98, x99, x100, x101, x102, x103, x104, x105, x106, x107, x108, x109, x110, x111, x112, x113, x114, x115, x116, x117, x118, x119, x120, x121, x122, x123, x124, x125, x126, x127, x128, x129, x130, x156, x157, x158, x159, x160, x161, x162, x163, x164, x165, x166, x167, x168, x169, x170, x171, x172, x173, x174, x175, x176, x177, x178] at ea
  rw [ea]
  clear ea x155 x0 x1 x2 x3 x4 x5 x6 x7 x8 x9 x10 x11 x12 x13 x14 x15 x16 x17 x18 x19 x20 x21 x22 x23 x24 x25 x26 x27 x28 x29 x30 x31 x32 x33 x34 x35 x36 x37 x38 x39 x40 x41 x42 x43 x44 x45 x46 x47 x48 x49 x50 x51 x52 x53 x54 x55 x56 x57 x58 x59 x60 x61 x62 x63 x64 x65 x66 x67 x68 x69 x70 x71 x72 x73 x74 x75 x76 x77 x78 x79 x80 x81 x82 x83 x84 x85 x86 x87 x88 x89 x90 x91 x92 x93 x94 x95 x96 x97 x98 x99 x100 x101 x102 x103 x104 x105 x106 x107 x108 x109 x110 x111 x112 x113 x114 x115 x116 x117 x118 x119 x120 x121 x122 x123 x124 x125 x126 x127 x128 x129 x130 x156 x157 x158 x159 x160 x161 x162 x163 x164 x165 x166 x167 x168 x169 x170 x171 x172 x173 x174 x175 x176 x177 x178 hPhi κ hdf hsz
  generalize a.tmps.getD 131 undef = u131, a.tmps.getD 132 undef = u132, a.tmps.getD 133 undef = u133, a.tmps.getD 134 undef = u134, a.tmps.getD 135 undef = u135, a.tmps.getD 136 undef = u136, a.tmps.getD 137 undef = u137, a.tmps.getD 138 undef = u138, a.tmps.getD 139 undef = u139, a.tmps.getD 140 undef = u140, a.tmps.getD 141 undef = u141, a.tmps.getD 142 undef = u142, a.tmps.getD 143 undef = u143, a.tmps.getD 144 undef = u144, a.tmps.getD 145 undef = u145, a.tmps.getD 146 undef = u146, a.tmps.getD 147 undef = u147, a.tmps.getD 148 undef = u148, a.tmps.getD 149 undef = u149, a.tmps.getD 150 undef = u150, a.tmps.getD 151 undef = u151, a.tmps.getD 152 undef = u152, a.tmps.getD 153 undef = u153, a.tmps.getD 154 undef = u154
  clear a
  have B8 := ι (BR.out.trans (hI.mono (by have := HN.out; have := BR.out.size; omega)))
  clear a0 a1 a2 b0 b1 b2 HSM HSZ hI
  go_wp2_with fail
  go_roundw
  case rel => exact ⟨k + 1, by go_num, by omega, B8⟩
  case measure => simp [intOf]; omega
 obtain rfl : nS = k := by omega
 clear hlt
 go_wp2_with fail
 have BW := ι (B15.out.trans (BR.out.mono B15.out.size))
 have HFR := ι (show FatesAt wr (.slice fA yE fc) F from SeqAt.ext HF15.out FtR.stays BR.out)
 have hyl := HXE.out
 go_loopw [159] (fun iv wr2 => ∃ j : Nat, iv = .int .i64 j ∧ j ≤ yE ∧ Hid (Below wr.heap.size wr wr2)) (fun iv _ => yE - (intOf iv).toNat)
 case atStart => exact ⟨0, rfl, Nat.zero_le _, ι (Below.refl _ _)⟩
 case round =>
 obtain ⟨j, rfl, hj, BR2⟩ := hrel
 by_cases hlt : j < yE
 ·have hlt2 : (j : Int) < (yE : Int) := by omega
  obtain ⟨f, hf⟩ : ∃ f, F[j]? = some f := ⟨_, List.getElem?_eq_getElem (by have := SeqAt.len HFR.out; omega)⟩
  obtain ⟨b, o, cs, rfl, _, hc, A3, c3, rfl, _⟩ := SeqAt.get (SeqAt.ext HFR.out FtR.stays BR2.out) hf
  obtain ⟨p1, p2⟩ := HFP.out f (List.mem_of_getElem? hf)
  unfold Ft.cs at hc
  rw [p1, p2] at hc
  have y0 := hc 0 _ rfl
  rw [Nat.add_zero] at y0
  have y1 := hc 1 _ rfl
  have y2 := hc 2 _ rfl
  have y3 := hc 3 _ rfl
  have y4 := hc 4 _ rfl
  clear hc p1 p2 hf
  go_wp2_with fail
  refine ⟨⟨j + 1, by go_num, by omega, ι (BR2.out.alloc BR2.out.size _)⟩, by simp [intOf]; omega⟩
 obtain rfl : yE = j := by omega
 clear hlt
 go_wp2_with fail
 go_ret
 exact ⟨rfl, BW.out.trans (BR2.out.mono BW.out.size)⟩
end Go.Proofs.YtmopjhbfobmklaaGreatDoor
