/-
  The contract of Check of documents. Its conditions are its hypotheses.
-/
import Derived.Test.YtmopjhbfobmklaaGreatDoorMD3
set_option maxRecDepth 100000
set_option maxHeartbeats 40000000
namespace Go.Proofs.YtmopjhbfobmklaaGreatDoor
open Go.RowKit Go.Joins
set_option linter.unusedVariables false
set_option linter.unusedSimpArgs false
def mpF (l : List Ev) : Nat → Int → Option Int
 | 0 => fun _ => none
 | n + 1 => match l[n]? with
  | some x => setG (mpF l n) x.id n
  | none => mpF l n
theorem mpF_succ {l : List Ev} {n : Nat} {x : Ev} (h : l[n]? = some x) : mpF l (n + 1) = setG (mpF l n) x.id n := by
 show (match l[n]? with | some x => setG (mpF l n) x.id n | none => mpF l n) = _
 rw [h]
def evN (d : Dc) (k : Nat) (x : Ev) : Int :=
 if evE x d.regs ≠ 0 then evE x d.regs else if d.last < x.id then 2 else if (match prv d.evs k with | some y => !lsB y x | none => false) = true then 8 else if (mpF d.evs k x.id).isSome = true then 7 else 0
def evL (d : Dc) : Nat → List Ev → Int
 | _, [] => 0
 | k, x :: t => if evN d k x = 0 then evL d (k + 1) t else evN d k x
theorem evL_drop {d : Dc} {k : Nat} {x : Ev} (hk : d.evs[k]? = some x) : evL d k (d.evs.drop k) = if evN d k x = 0 then evL d (k + 1) (d.evs.drop (k + 1)) else evN d k x := by
 rw [List.drop_eq_getElem_cons (List.getElem?_eq_some_iff.1 hk).1, (List.getElem?_eq_some_iff.1 hk).2]
 rfl
def dcE (d : Dc) : Int :=
 if hdE d ≠ 0 then hdE d else if rgsE d.regs ≠ 0 then rgsE d.regs else if 400 < d.evs.length then 9 else if evL d 0 d.evs ≠ 0 then evL d 0 d.evs else cmsE d (mpF d.evs d.evs.length)
structure DcOk (d : Dc) : Prop where
 title : d.title.length ≤ 2000000
 rate : 0 ≤ d.rate ∧ d.rate ≤ 255
 regl : d.regs.length ≤ 2000000
 evl : d.evs.length ≤ 2000000
 cml : d.cms.length ≤ 2000000
 evs : ∀ x ∈ d.evs, SmlR x.rows ∧ 0 ≤ x.kind ∧ x.kind ≤ 255
 cms : ∀ x ∈ d.cms, CmOk x
theorem evR_rows : ∀ {L : List (List Rn)}, evR L = 0 → ∀ r ∈ L, r.length ≤ 16
 | [], _, r, hr => by cases hr
 | a :: t, h, r, hr => by
  unfold evR at h
  split at h
  ·rename_i h0
   rcases List.mem_cons.1 hr with rfl | hr
   ·unfold erowE at h0
    split at h0
    ·rename_i h1; exact absurd h0 h1
    rename_i h1
    exact (rowE_zero (by simpa using h1)).1
   exact evR_rows h r hr
  rename_i h0; exact absurd h h0
theorem evE_zero {x : Ev} {regs : List Rg} (h : evE x regs = 0) : (1 ≤ x.id ∧ x.id ≤ 1099511627776) ∧ (0 ≤ x.i ∧ x.i < x.o ∧ x.o ≤ 5184000) ∧ (0 < x.rows.length ∧ x.rows.length ≤ 4) ∧ ∀ r ∈ x.rows, r.length ≤ 16 := by
 unfold evE at h
 split at h
 ·cases h
 rename_i h1
 split at h
 ·cases h
 split at h
 ·cases h
 split at h
 ·cases h
 split at h
 ·cases h
 rename_i h2
 split at h
 ·rename_i h3
  have h4 : spB x.i x.o = true := by
   cases h5 : spB x.i x.o with
   | true => rfl
   | false => exact absurd (.inr (.inr h5)) h1
  unfold spB at h4
  simp only [Bool.and_eq_true, decide_eq_true_eq] at h4
  exact ⟨by omega, ⟨h4.1.1, h4.1.2, h4.2⟩, by omega, evR_rows h3⟩
 rename_i h3; exact absurd h h3
theorem rgsE_len {l : List Rg} (h : rgsE l = 0) : l.length ≤ 16 := by
 unfold rgsE at h
 split at h
 ·cases h
 omega
theorem knows_zero (d : Dc) : Knows d (mpF d.evs 0) := fun k p h => by cases h
theorem Knows.next {d : Dc} {n : Nat} {x : Ev} (h : Knows d (mpF d.evs n)) (hx : d.evs[n]? = some x) (hl : EvL x) : Knows d (mpF d.evs (n + 1)) := fun k p hk => by
 rw [mpF_succ hx] at hk
 unfold setG at hk
 split at hk
 ·cases hk
  exact ⟨n, x, rfl, hx, hl⟩
 exact h k p hk
theorem hdE_last {d : Dc} (h : hdE d = 0) : d.last ≤ 1099511627776 := by
 unfold hdE at h
 repeat' split at h
 all_goals first | (cases h; done) | omega | skip
 all_goals (rename_i h1; first | exact absurd h h1 | omega)
def PhiDcY (X G g2 o2 m k n' ce : Nat) (u uy : Value) (x y : Ev) (pk ls : Bool) : Nat → Value → Prop
 | 56, v => v = .int .i64 (k : Int)
 | 57, v => v = .bool (pk)
 | 58, v => v = .bool (pk)
 | 59, v => (pk = true → v = .pointer (some ⟨G, 6, none⟩)) ∧ (¬ (pk = true) → v = undef)
 | 60, v => (pk = true → v = .slice (some ⟨g2, o2, none⟩) n' ce) ∧ (¬ (pk = true) → v = undef)
 | 61, v => (pk = true → v = .int .i64 (k : Int)) ∧ (¬ (pk = true) → v = undef)
 | 62, v => (pk = true → v = .int .i64 (m : Int)) ∧ (¬ (pk = true) → v = undef)
 | 63, v => (pk = true → v = .pointer (some ⟨g2, o2 + m * 7, none⟩)) ∧ (¬ (pk = true) → v = undef)
 | 64, v => (pk = true → v = .agg #[.int .i64 y.id, .int .i64 y.i, .int .i64 y.o, .string (sB y.reg), .int .u8 y.kind, .string (sB y.spk), uy]) ∧ (¬ (pk = true) → v = undef)
 | 65, v => (pk = true → v = .agg #[.int .i64 x.id, .int .i64 x.i, .int .i64 x.o, .string (sB x.reg), .int .u8 x.kind, .string (sB x.spk), u]) ∧ (¬ (pk = true) → v = undef)
 | 66, v => (pk = true → v = .bool ls) ∧ (¬ (pk = true) → v = undef)
 | 67, v => (pk = true → v = .bool (!ls)) ∧ (¬ (pk = true) → v = undef)
 | 68, v => v = .bool (pk && (!ls))
 | 55, v => v = .bool (pk && (!ls))
 | _, _ => True
def PhiDc (X G g2 o2 m k n' ce : Nat) (u uy : Value) (x y : Ev) (pk ls : Bool) (sl : Nat) (v : Value) (w : World) : Prop := PhiDcY X G g2 o2 m k n' ce u uy x y pk ls sl v
theorem dcheck_any (d : Dc) (r e c : Value) (w : World) (hd : DocAt w d r e c) (ho : DcOk d) (hw : Wt w) :
  Calls Tryz.prog 19 #[d.v r e c] w fun e' w' => e' = .returned (.int .i64 (dcE d)) ∧ Below w.heap.size w w' := by
 have HW := ι hw
 have HDO := ι hd
 have HO := ι ho
 obtain ⟨A, ce, rfl⟩ := hd.evs.form
 obtain ⟨A2, cr, rfl⟩ := hd.regs.form
 obtain ⟨A3, cc, rfl⟩ := hd.cms.form
 clear hw hd ho
 obtain ⟨q1, hq1⟩ : ∃ q, q = hdE d := ⟨_, rfl⟩
 obtain ⟨q2, hq2⟩ : ∃ q, q = rgsE d.regs := ⟨_, rfl⟩
 have HE0 := ι (show dcE d = if q1 ≠ 0 then q1 else if q2 ≠ 0 then q2 else if 400 < d.evs.length then 9 else if evL d 0 d.evs ≠ 0 then evL d 0 d.evs else cmsE d (mpF d.evs d.evs.length) by rw [hq1, hq2]; rfl)
 have HH := ι (fun W (hb : Below w.heap.size w W) => hq1 ▸ header_any d (.slice A2 d.regs.length cr) (.slice A d.evs.length ce) (.slice A3 d.cms.length cc) W HO.out.title HO.out.rate.1 HO.out.rate.2 (HW.out.on hb))
 have HG := ι (fun W (hb : Below w.heap.size w W) => hq2 ▸ rlist_any (.slice A2 d.regs.length cr) d.regs W (HDO.out.regs.ext (Flat.stays _) hb) HO.out.regl)
 have HCMS := ι (fun b n F W (hb : Below w.heap.size w W) (hm : MapI W b n F) (hF : Knows d F) (hl : d.last ≤ 1099511627776) => comments_any d (.slice A2 d.regs.length cr) (.slice A d.evs.length ce) (.slice A3 d.cms.length cc) b n F W (HDO.out.evs.ext EvC.stays hb) HO.out.evl (HDO.out.cms.ext (Flat.stays _) hb) HO.out.cml HO.out.cms hm hF hl (HW.out.on hb))
 have hel := HO.out.evl
 have HQ := ι (And.intro hq1 hq2)
 clear hq1 hq2
 obtain ⟨G, hGe⟩ : ∃ G, G = w.heap.size := ⟨_, rfl⟩
 rw [show d.v (.slice A2 d.regs.length cr) (.slice A d.evs.length ce) (.slice A3 d.cms.length cc) = .agg #[.string (sB d.title), .string (sB d.lang), .int .u8 d.rate, .bool d.drop, .int .i64 d.last, .slice A2 d.regs.length cr, .slice A d.evs.length ce, .slice A3 d.cms.length cc] from rfl] at HH HCMS ⊢
 have hmm := @run_makeMap Tryz.prog
 go_enter Tryz.func19, Tryz.ntmps19
 go_wp2_with fail
 rw [← hGe]
 generalize hw1 : World.alloc _ _ = w1
 have F1 := ι (show Held w1 G (d.cs (.slice A2 d.regs.length cr) (.slice A d.evs.length ce) (.slice A3 d.cms.length cc)) by subst hw1; exact Held.new hGe)
 have B1 := ι (show Below w.heap.size w w1 by subst hw1; exact Below.more' _ _)
 clear hw1 hGe
 refine (HH.out w1 B1.out).mono ?_
 rintro e' w2 ⟨rfl, hb⟩
 have B2 := ι (B1.out.trans (hb.mono B1.out.size))
 have F2 := ι (F1.out.ext hb)
 clear hb F1 B1 HH
 have fq := F2.out.cell
 have hG2 := F2.out.lt
 unfold Dc.cs at fq
 by_cases h1' : q1 ≠ 0
 ·have t0 : (q1 != 0) = true := by simpa using h1'
  have H3 := ι (show dcE d = q1 by rw [HE0.out, if_pos h1'])
  clear h1'
  go_wp2_with fail
  go_ret
  exact ⟨by rw [H3.out]; rfl, B2.out⟩
 have h1 : q1 = 0 := by omega
 clear h1'
 have HE1 := ι (show dcE d = if q2 ≠ 0 then q2 else if 400 < d.evs.length then 9 else if evL d 0 d.evs ≠ 0 then evL d 0 d.evs else cmsE d (mpF d.evs d.evs.length) by rw [HE0.out, if_neg (by rw [h1]; simp)])
 have HLS := ι (hdE_last (by rw [← HQ.out.1]; exact h1))
 subst h1
 clear HE0
 go_wp2_with fail
 refine (HG.out w2 B2.out).mono ?_
 rintro e' w3 ⟨rfl, hb⟩
 have B3 := ι (B2.out.trans (hb.mono B2.out.size))
 have F3 := ι (F2.out.ext hb)
 clear hb F2 B2 HG fq
 have fq := F3.out.cell
 have hG3 := F3.out.lt
 unfold Dc.cs at fq
 by_cases h2' : q2 ≠ 0
 ·have t0 : (q2 != 0) = true := by simpa using h2'
  have H3 := ι (show dcE d = q2 by rw [HE1.out, if_pos h2'])
  clear h2'
  go_wp2_with fail
  go_ret
  exact ⟨by rw [H3.out]; rfl, B3.out⟩
 have h2 : q2 = 0 := by omega
 clear h2'
 have HE2 := ι (show dcE d = if 400 < d.evs.length then 9 else if evL d 0 d.evs ≠ 0 then evL d 0 d.evs else cmsE d (mpF d.evs d.evs.length) by rw [HE1.out, if_neg (by rw [h2]; simp)])
 have HRL := ι (rgsE_len (l := d.regs) (by rw [← HQ.out.2]; exact h2))
 subst h2
 clear HE1
 by_cases h4 : 400 < d.evs.length
 ·have H3 := ι (show dcE d = 9 by rw [HE2.out, if_pos h4])
  have t0 : (400 : Int) < (d.evs.length : Int) := by omega
  clear h4
  go_wp2_with fail
  go_ret
  exact ⟨by rw [H3.out]; rfl, B3.out⟩
 have HE := ι (show dcE d = if evL d 0 d.evs ≠ 0 then evL d 0 d.evs else cmsE d (mpF d.evs d.evs.length) by rw [HE2.out, if_neg h4])
 have t0 : ¬ (400 : Int) < (d.evs.length : Int) := by omega
 clear HE2 h4
 go_wp2_with fail
 clear hmm t0 fq
 generalize hw4 : World.alloc w3 _ = w4
 obtain ⟨M, hM⟩ : ∃ M, M = w3.heap.size := ⟨_, rfl⟩
 rw [← hM]
 have M4 := ι (show MapI w4 M 0 (mpF d.evs 0) by subst hw4; rw [hM]; exact MapI.made w3)
 have F4 := ι (show Held w4 G (d.cs (.slice A2 d.regs.length cr) (.slice A d.evs.length ce) (.slice A3 d.cms.length cc)) by subst hw4; exact F3.out.ext (Below.more' _ _))
 have B4 := ι (show Below w.heap.size w w4 by subst hw4; exact B3.out.trans ((Below.more' _ _).mono B3.out.size))
 have hwM : w.heap.size ≤ M := by rw [hM]; exact B3.out.size
 have hGM : G < M := by rw [hM]; exact F3.out.lt
 clear hw4 hM F3 B3
 go_loopw [30] (fun i wr => ∃ k : Nat, k ≤ d.evs.length ∧ i = .int .i64 k ∧ Hid (evL d k (d.evs.drop k) = evL d 0 d.evs) ∧ Hid (Below M w4 wr) ∧ Hid (MapI wr M k (mpF d.evs k)) ∧ Hid (Knows d (mpF d.evs k))) (fun i _ => d.evs.length - (intOf i).toNat)
 case atStart => exact ⟨0, Nat.zero_le _, rfl, ι rfl, ι (Below.refl _ _), M4, ι (knows_zero d)⟩
 case round =>
 obtain ⟨k, hk, rfl, HF, BR, MR, KR⟩ := hrel
 have BW := ι (show Below w.heap.size w wr from B4.out.trans (BR.out.mono hwM))
 have FR := ι (F4.out.below BR.out hGM)
 have hMr : M < wr.heap.size := MR.out.lt
 by_cases hlt : k < d.evs.length
 ·have hlt2 : (k : Int) < (d.evs.length : Int) := by omega
  obtain ⟨x, hx⟩ : ∃ x, d.evs[k]? = some x := ⟨_, List.getElem?_eq_getElem hlt⟩
  have HR := ι (HDO.out.evs.ext EvC.stays BW.out)
  have HD := ι (evL_drop hx)
  obtain ⟨g, o, u, rfl, ⟨p0, p1, p2, p3, p4, p5, p6⟩, hrow⟩ := EvsAt.get HR.out hx
  obtain ⟨Au, cu, rfl⟩ := hrow.form
  have HROW := ι hrow
  obtain ⟨m, y, hmk, hy⟩ : ∃ m y, (0 < k → m + 1 = k) ∧ d.evs[m]? = some y := by
   by_cases h0 : 0 < k
   ·exact ⟨k - 1, _, fun _ => by omega, List.getElem?_eq_getElem (by omega)⟩
   exact ⟨k, _, fun h => absurd h h0, hx⟩
  have HY0 := ι hy
  have HX0 := ι hx
  have hml : m < d.evs.length := (List.getElem?_eq_some_iff.1 hy).1
  obtain ⟨hsr, hk0, hk1⟩ := HO.out.evs x (List.mem_of_getElem? hx)
  have HSR := ι hsr
  have hgr : g < wr.heap.size := World.block_lt_of_cell? wr _ p0
  obtain ⟨pk, hpk⟩ : ∃ b, b = decide (0 < k) := ⟨_, rfl⟩
  obtain ⟨ls, hls⟩ : ∃ b, b = lsB y x := ⟨_, rfl⟩
  obtain ⟨tk, htk⟩ : ∃ b, b = (mpF d.evs k x.id).isSome := ⟨_, rfl⟩
  obtain ⟨q, hq⟩ : ∃ q, q = evE x d.regs := ⟨_, rfl⟩
  have HN := ι (show evN d k x = if q ≠ 0 then q else if d.last < x.id then 2 else if (pk && !ls) = true then 8 else if tk = true then 7 else 0 by
   have e : (match prv d.evs k with | some y => !lsB y x | none => false) = (pk && !ls) := by
    by_cases h0 : 0 < k
    ·have e : prv d.evs k = some y := by
      unfold prv
      rw [if_neg (by omega), show k - 1 = m by have := hmk h0; omega]
      exact hy
     rw [e, hpk, show decide (0 < k) = true by simpa using h0, Bool.true_and, hls]
    have e : prv d.evs k = none := by
     unfold prv
     rw [if_pos (by omega)]
    rw [e, hpk, show decide (0 < k) = false by simpa using h0, Bool.false_and]
   unfold evN
   rw [e, ← htk, ← hq])
  have HP := ι (And.intro hpk (And.intro hmk hml))
  have HCK := ι (show ∀ W, Below w.heap.size w W → RowsAt W (.slice Au x.rows.length cu) x.rows → Calls Tryz.prog 45 #[x.v (.slice Au x.rows.length cu), .slice A2 d.regs.length cr] W fun e' w' => e' = .returned (.int .i64 q) ∧ Below W.heap.size W w' from fun W hW hu => by
   rw [hq]
   exact echeck_any x _ _ d.regs W hu hsr (HDO.out.regs.ext (Flat.stays _) hW) (by have := HRL.out; omega) ⟨hk0, hk1⟩ (HW.out.on hW))
  have HLK := ι (show ∀ W, MapI W M k (mpF d.evs k) → -9223372036854775808 ≤ x.id ∧ x.id ≤ 9223372036854775807 → (Instr.lookup 114 (.map (some M)) (.int .i64 x.id) true).run Tryz.prog W = .ok (.tuple #[.int .i64 (elO (mpF d.evs k x.id)), .bool tk]) W from fun W hW hi => by rw [htk]; exact hW.look true hi)
  have HLS2 := ι (show ∀ ry rx W, Calls Tryz.prog 46 #[.agg #[.int .i64 y.id, .int .i64 y.i, .int .i64 y.o, .string (sB y.reg), .int .u8 y.kind, .string (sB y.spk), ry], .agg #[.int .i64 x.id, .int .i64 x.i, .int .i64 x.o, .string (sB x.reg), .int .u8 x.kind, .string (sB x.spk), rx]] W fun e w' => e = .returned (.bool ls) ∧ Below W.heap.size W w' from fun ry rx W => by
   have h := less_any y x ry rx W
   rw [show y.v ry = .agg #[.int .i64 y.id, .int .i64 y.i, .int .i64 y.o, .string (sB y.reg), .int .u8 y.kind, .string (sB y.spk), ry] from rfl, show x.v rx = .agg #[.int .i64 x.id, .int .i64 x.i, .int .i64 x.o, .string (sB x.reg), .int .u8 x.kind, .string (sB x.spk), rx] from rfl] at h
   rw [hls]
   exact h)
  have HI := ι (And.intro hk hlt)
  have HQE := ι hq
  clear hx hy hpk hls htk hq hmk hml hsr hk0 hk1 hrow
  rw [show x.v (.slice Au x.rows.length cu) = .agg #[.int .i64 x.id, .int .i64 x.i, .int .i64 x.o, .string (sB x.reg), .int .u8 x.kind, .string (sB x.spk), .slice Au x.rows.length cu] from rfl] at HCK
  have fq := FR.out.cell
  have hGr : G < wr.heap.size := FR.out.lt
  unfold Dc.cs at fq
  go_wp2_with fail
  clear fq
  generalize hw5 : World.alloc _ _ = w5
  obtain ⟨X, hX⟩ : ∃ X, X = wr.heap.size := ⟨_, rfl⟩
  rw [← hX]
  have FX := ι (show Held w5 X (x.cs (.slice Au x.rows.length cu)) by subst hw5; exact Held.new hX)
  have B5 := ι (show Below wr.heap.size wr w5 by subst hw5; exact Below.more' _ _)
  clear hw5 hX p0 p1 p2 p3 p4 p5 p6
  refine (HCK.out w5 (BW.out.trans (B5.out.mono BW.out.size)) (HROW.out.ext RowC.stays B5.out)).mono ?_
  rintro e' w6 ⟨rfl, hb⟩
  have B6 := ι (B5.out.trans (hb.mono B5.out.size))
  have F6 := ι (FX.out.ext hb)
  have BW6 := ι (show Below w.heap.size w w6 from BW.out.trans (B6.out.mono BW.out.size))
  have G6 := ι (FR.out.ext B6.out)
  clear hb FX B5 HCK
  by_cases hq0' : q ≠ 0
  ·have t0 : (q != 0) = true := by simpa using hq0'
   have H3 := ι (show dcE d = q by
    have e : evN d k x = q := by rw [HN.out, if_pos hq0']
    have e2 : evL d 0 d.evs = q := by rw [← HF.out, HD.out, e, if_neg (by exact hq0')]
    rw [HE.out, if_pos (by rw [e2]; exact hq0'), e2])
   go_wp2_with fail
   go_ret
   exact ⟨by rw [H3.out]; rfl, BW6.out⟩
  have hq0 : q = 0 := by omega
  clear hq0'
  have HN1 := ι (show evN d k x = if d.last < x.id then 2 else if (pk && !ls) = true then 8 else if tk = true then 7 else 0 by rw [HN.out, if_neg (by rw [hq0]; simp)])
  have HZ := ι (evE_zero (x := x) (regs := d.regs) (by rw [← HQE.out]; exact hq0))
  subst hq0
  clear HN
  have hid : -9223372036854775808 ≤ x.id ∧ x.id ≤ 9223372036854775807 := by have := HZ.out.1; omega
  have hlk := HLK.out w6 (MR.out.ext B6.out) hid
  have fq := F6.out.cell
  have gq := G6.out.cell
  have hX6 := F6.out.lt
  have hG6 := G6.out.lt
  unfold Dc.cs at gq
  unfold Ev.cs at fq
  by_cases h2 : d.last < x.id
  ·have t2 : decide (d.last < x.id) = true := by simpa using h2
   have H3 := ι (show dcE d = 2 by
    have e : evN d k x = 2 := by rw [HN1.out, if_pos h2]
    have e2 : evL d 0 d.evs = 2 := by rw [← HF.out, HD.out, e, if_neg (by decide)]
    rw [HE.out, if_pos (by rw [e2]; decide), e2])
   go_wp2_with fail
   go_ret
   exact ⟨by rw [H3.out]; rfl, BW6.out⟩
  have t2 : decide (d.last < x.id) = false := by simpa using h2
  have HN2 := ι (show evN d k x = if (pk && !ls) = true then 8 else if tk = true then 7 else 0 by rw [HN1.out, if_neg h2])
  have HID := ι hid
  clear h2 HN1 hid
  go_wp2_with fail
  clear t2 fq gq hlk
  obtain ⟨N, hN⟩ : ∃ N, N = w6.heap.size := ⟨_, rfl⟩
  have hXN : X < N := by have := F6.out.lt; omega
  have hGN : G < N := by have := G6.out.lt; omega
  obtain ⟨g2, o2, uy, eg, ⟨y0', y1', y2', y3', y4', y5', y6'⟩, _⟩ := EvsAt.get (HR.out.ext EvC.stays B6.out) HY0.out
  obtain ⟨rfl, rfl⟩ : g2 = g ∧ o2 = o := by
   injection eg with e
   injection e with e1 e2
   exact ⟨e1.symm, e2.symm⟩
  clear eg
  have hgN : g2 < N := by have h : g2 < w6.heap.size := World.block_lt_of_cell? w6 _ y0'; omega
  have HSZ := ι (show ∀ W, Below N w6 W → N ≤ W.heap.size from fun W hW => by have := hW.size; omega)
  have GN := ι (show wr.heap.size ≤ N by have := B6.out.size; omega)
  clear hN
  have e0 : w6.cell? ⟨X, 0, none⟩ = some (.int .i64 x.id) := F6.out.cell 0
  have e1 : w6.cell? ⟨X, 1, none⟩ = some (.int .i64 x.i) := F6.out.cell 1
  have e2 : w6.cell? ⟨X, 2, none⟩ = some (.int .i64 x.o) := F6.out.cell 2
  have e3 : w6.cell? ⟨X, 3, none⟩ = some (.string (sB x.reg)) := F6.out.cell 3
  have e4 : w6.cell? ⟨X, 4, none⟩ = some (.int .u8 x.kind) := F6.out.cell 4
  have e5 : w6.cell? ⟨X, 5, none⟩ = some (.string (sB x.spk)) := F6.out.cell 5
  have e6 : w6.cell? ⟨X, 6, none⟩ = some (.slice Au x.rows.length cu) := F6.out.cell 6
  have d6 : w6.cell? ⟨G, 6, none⟩ = some (.slice (some ⟨g2, o2, none⟩) d.evs.length ce) := G6.out.cell 6
  have hpk1 : decide ((0 : Int) < (k : Int)) = pk := by rw [HP.out.1]; simp
  have hpk2 : decide (0 < k) = pk := HP.out.1.symm
  have m4 : (m : Int) < (d.evs.length : Int) := by have := HP.out.2.2; omega
  have m4' : m < d.evs.length := HP.out.2.2
  have m3 : pk = true → IntKind.i64.wrap ((k : Int) - 1) = (m : Int) := fun h => by
   have := HP.out.2.1 (of_decide_eq_true (HP.out.1.symm.trans h))
   rw [IntKind.wrap_i64]
   omega
  refine wp_region_spec (by kernel_rfl) (fun w' => Below N w6 w') (PhiDc X G g2 o2 m k d.evs.length ce (.slice Au x.rows.length cu) uy x y pk ls) 79 rfl (by kernel_rfl) (Below.refl _ _).drew ?hops ?hend
  case hops =>
   refine ⟨?o0, ?o1, ?o2, ?o3, ?o4, ?o5, ?o6, ?o7, ?o8, ?o9, ?o10, ?o11, ?o12, ?o13, trivial⟩
   case o0 =>
    intro ev w8 hI δ φ
    have a6 : ev 6 = .int .i64 (k : Int) := φ 6 (by kernel_rfl)
    clear δ φ
    try dsimp only
    simp [OpRuns, execOp, evalOf, a6, go_sem]
    exact ⟨hI, rfl⟩
   case o1 =>
    intro ev w8 hI δ φ
    have a56 : ev 56 = .int .i64 (k : Int) := δ 0 56 (by kernel_rfl) rfl
    clear δ φ
    try dsimp only
    simp [OpRuns, execOp, evalOf, a56, go_sem]
    exact ⟨hI, congrArg Value.bool hpk2⟩
   case o2 =>
    intro ev w8 hI δ φ
    have a57 : ev 57 = .bool (pk) := δ 1 57 (by kernel_rfl) rfl
    clear δ φ
    try dsimp only
    simp [OpRuns, execOp, evalOf, a57, go_sem]
    exact ⟨hI, rfl⟩
   case o3 =>
    intro ev w8 hI δ φ
    have ag : ev 58 = .bool pk := δ 2 58 (by kernel_rfl) rfl
    refine γ ag rfl (fun hR => ?_) fun hn d hd => by cases hd; exact ⟨fun hr => absurd hr hn, fun _ => rfl⟩
    clear ag
    have a1 : ev 1 = .pointer (some ⟨G, 0, none⟩) := φ 1 (by kernel_rfl)
    clear δ φ
    try dsimp only
    simp [OpRuns, execOp, evalOf, a1, go_sem]
    exact ⟨hI, ⟨fun _ => rfl, fun h => absurd hR h⟩⟩
   case o4 =>
    intro ev w8 hI δ φ
    have ag : ev 58 = .bool pk := δ 2 58 (by kernel_rfl) rfl
    refine γ ag rfl (fun hR => ?_) fun hn d hd => by cases hd; exact ⟨fun hr => absurd hr hn, fun _ => rfl⟩
    clear ag
    have a59 : ev 59 = .pointer (some ⟨G, 6, none⟩) := (δ 3 59 (by kernel_rfl) rfl).1 hR
    have y0 : w8.cell? ⟨G, 6, none⟩ = some (.slice (some ⟨g2, o2, none⟩) d.evs.length ce) := (hI.cell (p := ⟨G, 6, none⟩) hGN).trans d6
    clear δ φ
    try dsimp only
    simp [OpRuns, execOp, evalOf, a59, y0, go_sem]
    exact ⟨hI, ⟨fun _ => rfl, fun h => absurd hR h⟩⟩
   case o5 =>
    intro ev w8 hI δ φ
    have ag : ev 58 = .bool pk := δ 2 58 (by kernel_rfl) rfl
    refine γ ag rfl (fun hR => ?_) fun hn d hd => by cases hd; exact ⟨fun hr => absurd hr hn, fun _ => rfl⟩
    clear ag
    have a6 : ev 6 = .int .i64 (k : Int) := φ 6 (by kernel_rfl)
    clear δ φ
    try dsimp only
    simp [OpRuns, execOp, evalOf, a6, go_sem]
    exact ⟨hI, ⟨fun _ => rfl, fun h => absurd hR h⟩⟩
   case o6 =>
    intro ev w8 hI δ φ
    have ag : ev 58 = .bool pk := δ 2 58 (by kernel_rfl) rfl
    refine γ ag rfl (fun hR => ?_) fun hn d hd => by cases hd; exact ⟨fun hr => absurd hr hn, fun _ => rfl⟩
    clear ag
    have m3' := m3 hR
    have a61 : ev 61 = .int .i64 (k : Int) := (δ 5 61 (by kernel_rfl) rfl).1 hR
    clear δ φ
    try dsimp only
    simp [OpRuns, execOp, evalOf, a61, m3', go_sem]
    exact ⟨hI, ⟨fun _ => rfl, fun h => absurd hR h⟩⟩
   case o7 =>
    intro ev w8 hI δ φ
    have ag : ev 58 = .bool pk := δ 2 58 (by kernel_rfl) rfl
    refine γ ag rfl (fun hR => ?_) fun hn d hd => by cases hd; exact ⟨fun hr => absurd hr hn, fun _ => rfl⟩
    clear ag
    have a60 : ev 60 = .slice (some ⟨g2, o2, none⟩) d.evs.length ce := (δ 4 60 (by kernel_rfl) rfl).1 hR
    have a62 : ev 62 = .int .i64 (m : Int) := (δ 6 62 (by kernel_rfl) rfl).1 hR
    clear δ φ
    try dsimp only
    simp [OpRuns, execOp, evalOf, a60, a62, m4, m4', go_sem]
    exact ⟨hI, ⟨fun _ => rfl, fun h => absurd hR h⟩⟩
   case o8 =>
    intro ev w8 hI δ φ
    have ag : ev 58 = .bool pk := δ 2 58 (by kernel_rfl) rfl
    refine γ ag rfl (fun hR => ?_) fun hn d hd => by cases hd; exact ⟨fun hr => absurd hr hn, fun _ => rfl⟩
    clear ag
    have a63 : ev 63 = .pointer (some ⟨g2, o2 + m * 7, none⟩) := (δ 7 63 (by kernel_rfl) rfl).1 hR
    have y0 : w8.cell? ⟨g2, o2 + m * 7, none⟩ = some (.int .i64 y.id) := (hI.cell (p := ⟨g2, o2 + m * 7, none⟩) hgN).trans y0'
    have y1 : w8.cell? ⟨g2, o2 + m * 7 + 1, none⟩ = some (.int .i64 y.i) := (hI.cell (p := ⟨g2, o2 + m * 7 + 1, none⟩) hgN).trans y1'
    have y2 : w8.cell? ⟨g2, o2 + m * 7 + 2, none⟩ = some (.int .i64 y.o) := (hI.cell (p := ⟨g2, o2 + m * 7 + 2, none⟩) hgN).trans y2'
    have y3 : w8.cell? ⟨g2, o2 + m * 7 + 3, none⟩ = some (.string (sB y.reg)) := (hI.cell (p := ⟨g2, o2 + m * 7 + 3, none⟩) hgN).trans y3'
    have y4 : w8.cell? ⟨g2, o2 + m * 7 + 4, none⟩ = some (.int .u8 y.kind) := (hI.cell (p := ⟨g2, o2 + m * 7 + 4, none⟩) hgN).trans y4'
    have y5 : w8.cell? ⟨g2, o2 + m * 7 + 5, none⟩ = some (.string (sB y.spk)) := (hI.cell (p := ⟨g2, o2 + m * 7 + 5, none⟩) hgN).trans y5'
    have y6 : w8.cell? ⟨g2, o2 + m * 7 + 6, none⟩ = some (uy) := (hI.cell (p := ⟨g2, o2 + m * 7 + 6, none⟩) hgN).trans y6'
    clear δ φ
    try dsimp only
    simp [OpRuns, execOp, evalOf, a63, y0, y1, y2, y3, y4, y5, y6, go_sem]
    exact ⟨hI, ⟨fun _ => rfl, fun h => absurd hR h⟩⟩
   case o9 =>
    intro ev w8 hI δ φ
    have ag : ev 58 = .bool pk := δ 2 58 (by kernel_rfl) rfl
    refine γ ag rfl (fun hR => ?_) fun hn d hd => by cases hd; exact ⟨fun hr => absurd hr hn, fun _ => rfl⟩
    clear ag
    have a7 : ev 7 = .pointer (some ⟨X, 0, none⟩) := φ 7 (by kernel_rfl)
    have y0 : w8.cell? ⟨X, 0, none⟩ = some (.int .i64 x.id) := (hI.cell (p := ⟨X, 0, none⟩) hXN).trans e0
    have y1 : w8.cell? ⟨X, 1, none⟩ = some (.int .i64 x.i) := (hI.cell (p := ⟨X, 1, none⟩) hXN).trans e1
    have y2 : w8.cell? ⟨X, 2, none⟩ = some (.int .i64 x.o) := (hI.cell (p := ⟨X, 2, none⟩) hXN).trans e2
    have y3 : w8.cell? ⟨X, 3, none⟩ = some (.string (sB x.reg)) := (hI.cell (p := ⟨X, 3, none⟩) hXN).trans e3
    have y4 : w8.cell? ⟨X, 4, none⟩ = some (.int .u8 x.kind) := (hI.cell (p := ⟨X, 4, none⟩) hXN).trans e4
    have y5 : w8.cell? ⟨X, 5, none⟩ = some (.string (sB x.spk)) := (hI.cell (p := ⟨X, 5, none⟩) hXN).trans e5
    have y6 : w8.cell? ⟨X, 6, none⟩ = some ((.slice Au x.rows.length cu)) := (hI.cell (p := ⟨X, 6, none⟩) hXN).trans e6
    clear δ φ
    try dsimp only
    simp [OpRuns, execOp, evalOf, a7, y0, y1, y2, y3, y4, y5, y6, go_sem]
    exact ⟨hI, ⟨fun _ => rfl, fun h => absurd hR h⟩⟩
   case o10 =>
    intro ev w8 hI δ φ
    have ag : ev 58 = .bool pk := δ 2 58 (by kernel_rfl) rfl
    refine γ ag rfl (fun hR => ?_) fun hn d hd => by cases hd; exact ⟨fun hr => absurd hr hn, fun _ => rfl⟩
    clear ag
    have a64 : ev 64 = .agg #[.int .i64 y.id, .int .i64 y.i, .int .i64 y.o, .string (sB y.reg), .int .u8 y.kind, .string (sB y.spk), uy] := (δ 8 64 (by kernel_rfl) rfl).1 hR
    have a65 : ev 65 = .agg #[.int .i64 x.id, .int .i64 x.i, .int .i64 x.o, .string (sB x.reg), .int .u8 x.kind, .string (sB x.spk), (.slice Au x.rows.length cu)] := (δ 9 65 (by kernel_rfl) rfl).1 hR
    clear δ φ
    try dsimp only
    refine runs_call (f := 46) (args := #[.agg #[.int .i64 y.id, .int .i64 y.i, .int .i64 y.o, .string (sB y.reg), .int .u8 y.kind, .string (sB y.spk), uy], .agg #[.int .i64 x.id, .int .i64 x.i, .int .i64 x.o, .string (sB x.reg), .int .u8 x.kind, .string (sB x.spk), (.slice Au x.rows.length cu)]]) (by simp [execOp, evalOf, resolve, invoke, a64, a65, go_sem]) ((HLS2.out uy (.slice Au x.rows.length cu) w8).mono ?_)
    rintro e w9 ⟨he, hb⟩
    exact ⟨_, he, hI.trans (hb.mono (HSZ.out w8 hI)), fun s u h => h, fun d hd => by cases hd; exact ⟨fun _ => rfl, fun h => absurd hR h⟩⟩
   case o11 =>
    intro ev w8 hI δ φ
    have ag : ev 58 = .bool pk := δ 2 58 (by kernel_rfl) rfl
    refine γ ag rfl (fun hR => ?_) fun hn d hd => by cases hd; exact ⟨fun hr => absurd hr hn, fun _ => rfl⟩
    clear ag
    have a66 : ev 66 = .bool ls := (δ 10 66 (by kernel_rfl) rfl).1 hR
    clear δ φ
    try dsimp only
    simp [OpRuns, execOp, evalOf, a66, go_sem]
    exact ⟨hI, ⟨fun _ => rfl, fun h => absurd hR h⟩⟩
   case o12 =>
    intro ev w8 hI δ φ
    have a58 : ev 58 = .bool (pk) := δ 2 58 (by kernel_rfl) rfl
    have ax : pk = true → ev 67 = .bool (!ls) := fun hc => (δ 11 67 (by kernel_rfl) rfl).1 hc
    clear δ φ
    obtain ⟨cc, hcc⟩ : ∃ cc, cc = pk := ⟨_, rfl⟩
    rw [← hcc] at a58
    cases cc with
    | true =>
     have ax := ax hcc.symm
     have hv : (Value.bool (!ls)) = (Value.bool (pk && (!ls))) := by rw [← hcc]; simp
     clear hcc
     try dsimp only
     simp [OpRuns, execOp, evalOf, a58, ax, go_sem]
     exact ⟨hI, hv⟩
    | false =>
     clear ax
     have hv : Value.bool false = (Value.bool (pk && (!ls))) := by rw [← hcc]; simp
     clear hcc
     try dsimp only
     simp [OpRuns, execOp, evalOf, a58, go_sem]
     exact ⟨hI, hv⟩
   case o13 =>
   intro ev w8 hI δ φ
   have a68 : ev 68 = .bool (pk && (!ls)) := δ 12 68 (by kernel_rfl) rfl
   clear δ φ
   try dsimp only
   simp [OpRuns, execOp, evalOf, a68, go_sem]
   exact ⟨hI, rfl⟩
  case hend =>
  intro a w7 hdf hsz hI hPhi κ
  replace hdf : a.defers = [] := hdf
  replace hsz : a.tmps.size = 79 := hsz
  have x55 : a.tmps.getD 55 undef = .bool (pk && (!ls)) := hPhi 13 55 (by kernel_rfl)
  have x0 : a.tmps.getD 0 undef = Value.agg #[Value.string (sB d.title), Value.string (sB d.lang), Value.int IntKind.u8 d.rate, Value.bool d.drop, Value.int IntKind.i64 d.last, Value.slice A2 d.regs.length cr, Value.slice (some { block := g2, off := o2 }) d.evs.length ce, Value.slice A3 d.cms.length cc] := κa κ 0 rfl
  have x1 : a.tmps.getD 1 undef = Value.pointer (some { block := G, off := 0 }) := κa κ 1 rfl
  have x2 : a.tmps.getD 2 undef = u2 := κa κ 2 rfl
  have x3 : a.tmps.getD 3 undef = Value.int IntKind.i64 0 := κa κ 3 rfl
  have x4 : a.tmps.getD 4 undef = Value.int IntKind.i64 0 := κa κ 4 rfl
  have x5 : a.tmps.getD 5 undef = Value.map (some M) := κa κ 5 rfl
  have x6 : a.tmps.getD 6 undef = Value.int IntKind.i64 (↑k : Int) := κa κ 6 rfl
  have x7 : a.tmps.getD 7 undef = Value.pointer (some { block := X, off := 0 }) := κa κ 7 rfl
  have x8 : a.tmps.getD 8 undef = Value.int IntKind.i64 0 := κa κ 8 rfl
  have x9 : a.tmps.getD 9 undef = Value.int IntKind.i64 (elO (mpF d.evs k x.id)) := κa κ 9 rfl
  have x10 : a.tmps.getD 10 undef = Value.bool tk := κa κ 10 rfl
  have x11 : a.tmps.getD 11 undef = Value.agg #[Value.string (sB d.title), Value.string (sB d.lang), Value.int IntKind.u8 d.rate, Value.bool d.drop, Value.int IntKind.i64 d.last, Value.slice A2 d.regs.length cr, Value.slice (some { block := g2, off := o2 }) d.evs.length ce, Value.slice A3 d.cms.length cc] := κa κ 11 rfl
  have x12 : a.tmps.getD 12 undef = Value.int IntKind.i64 0 := κa κ 12 rfl
  have x13 : a.tmps.getD 13 undef = Value.int IntKind.i64 0 := κa κ 13 rfl
  have x14 : a.tmps.getD 14 undef = Value.bool false := κa κ 14 rfl
  have x15 : a.tmps.getD 15 undef = undef := κa κ 15 rfl
  have x16 : a.tmps.getD 16 undef = Value.pointer (some { block := G, off := 5 }) := κa κ 16 rfl
  have x17 : a.tmps.getD 17 undef = Value.slice A2 d.regs.length cr := κa κ 17 rfl
  have x18 : a.tmps.getD 18 undef = Value.int IntKind.i64 0 := κa κ 18 rfl
  have x19 : a.tmps.getD 19 undef = Value.int IntKind.i64 0 := κa κ 19 rfl
  have x20 : a.tmps.getD 20 undef = Value.bool false := κa κ 20 rfl
  have x21 : a.tmps.getD 21 undef = undef := κa κ 21 rfl
  have x22 : a.tmps.getD 22 undef = Value.pointer (some { block := G, off := 6 }) := κa κ 22 rfl
  have x23 : a.tmps.getD 23 undef = Value.slice (some { block := g2, off := o2 }) d.evs.length ce := κa κ 23 rfl
  have x24 : a.tmps.getD 24 undef = Value.int IntKind.i64 (↑d.evs.length : Int) := κa κ 24 rfl
  have x25 : a.tmps.getD 25 undef = Value.bool (decide (400 < (↑d.evs.length : Int))) := κa κ 25 rfl
  have x26 : a.tmps.getD 26 undef = Value.map (some M) := κa κ 26 rfl
  have x27 : a.tmps.getD 27 undef = Value.pointer (some { block := G, off := 6 }) := κa κ 27 rfl
  have x28 : a.tmps.getD 28 undef = Value.slice (some { block := g2, off := o2 }) d.evs.length ce := κa κ 28 rfl
  have x29 : a.tmps.getD 29 undef = Value.int IntKind.i64 (↑d.evs.length : Int) := κa κ 29 rfl
  have x30 : a.tmps.getD 30 undef = Value.int IntKind.i64 (↑k : Int) := κa κ 30 rfl
  have x31 : a.tmps.getD 31 undef = Value.bool true := κa κ 31 rfl
  have x32 : a.tmps.getD 32 undef = Value.int IntKind.i64 (↑k : Int) := κa κ 32 rfl
  have x33 : a.tmps.getD 33 undef = Value.pointer (some { block := g2, off := o2 + k * 7 }) := κa κ 33 rfl
  have x34 : a.tmps.getD 34 undef = Value.agg #[Value.int IntKind.i64 x.id, Value.int IntKind.i64 x.i, Value.int IntKind.i64 x.o, Value.string (sB x.reg), Value.int IntKind.u8 x.kind, Value.string (sB x.spk), Value.slice Au x.rows.length cu] := κa κ 34 rfl
  have x35 : a.tmps.getD 35 undef = Value.agg #[Value.int IntKind.i64 x.id, Value.int IntKind.i64 x.i, Value.int IntKind.i64 x.o, Value.string (sB x.reg), Value.int IntKind.u8 x.kind, Value.string (sB x.spk), Value.slice Au x.rows.length cu] := κa κ 35 rfl
  have x36 : a.tmps.getD 36 undef = Value.pointer (some { block := G, off := 5 }) := κa κ 36 rfl
  have x37 : a.tmps.getD 37 undef = Value.slice A2 d.regs.length cr := κa κ 37 rfl
  have x38 : a.tmps.getD 38 undef = Value.int IntKind.i64 0 := κa κ 38 rfl
  have x39 : a.tmps.getD 39 undef = Value.int IntKind.i64 0 := κa κ 39 rfl
  have x40 : a.tmps.getD 40 undef = Value.bool false := κa κ 40 rfl
  have x41 : a.tmps.getD 41 undef = u41 := κa κ 41 rfl
  have x42 : a.tmps.getD 42 undef = Value.tuple #[Value.int IntKind.i64 (elO (mpF d.evs k x.id)), Value.bool tk] := κa κ 42 rfl
  have x43 : a.tmps.getD 43 undef = Value.map (some M) := κa κ 43 rfl
  have x44 : a.tmps.getD 44 undef = Value.pointer (some { block := X, off := 0 }) := κa κ 44 rfl
  have x45 : a.tmps.getD 45 undef = Value.int IntKind.i64 x.id := κa κ 45 rfl
  have x46 : a.tmps.getD 46 undef = Value.tuple #[Value.int IntKind.i64 (elO (mpF d.evs k x.id)), Value.bool tk] := κa κ 46 rfl
  have x47 : a.tmps.getD 47 undef = Value.int IntKind.i64 (elO (mpF d.evs k x.id)) := κa κ 47 rfl
  have x48 : a.tmps.getD 48 undef = Value.bool tk := κa κ 48 rfl
  have x49 : a.tmps.getD 49 undef = Value.bool false := κa κ 49 rfl
  have x50 : a.tmps.getD 50 undef = Value.pointer (some { block := X, off := 0 }) := κa κ 50 rfl
  have x51 : a.tmps.getD 51 undef = Value.int IntKind.i64 x.id := κa κ 51 rfl
  have x52 : a.tmps.getD 52 undef = Value.pointer (some { block := G, off := 4 }) := κa κ 52 rfl
  have x53 : a.tmps.getD 53 undef = Value.int IntKind.i64 d.last := κa κ 53 rfl
  have x54 : a.tmps.getD 54 undef = Value.bool false := κa κ 54 rfl
  have x69 : a.tmps.getD 69 undef = u69 := κa κ 69 rfl
  have x70 : a.tmps.getD 70 undef = u70 := κa κ 70 rfl
  have x71 : a.tmps.getD 71 undef = u71 := κa κ 71 rfl
  have x72 : a.tmps.getD 72 undef = u72 := κa κ 72 rfl
  have x73 : a.tmps.getD 73 undef = u73 := κa κ 73 rfl
  have x74 : a.tmps.getD 74 undef = u74 := κa κ 74 rfl
  have x75 : a.tmps.getD 75 undef = u75 := κa κ 75 rfl
  have x76 : a.tmps.getD 76 undef = undef := κa κ 76 rfl
  have x77 : a.tmps.getD 77 undef = undef := κa κ 77 rfl
  have x78 : a.tmps.getD 78 undef = undef := κa κ 78 rfl
  have ea := act_lit hsz hdf
  simp only [getDs] at ea
  rw [x55, x0, x1, x2, x3, x4, x5, x6, x7, x8, x9, x10, x11, x12, x13, x14, x15, x16, x17, x18, x19, x20, x21, x22, x23, x24, x25, x26, x27, x28, x29, x30, x31, x32, x33, x34, x35, x36, x37, x38, x39, x40, x41, x42, x43, x44, x45, x46, x47, x48, x49, x50, x51, x52, x53, x54, x69, x70, x71, x72, x73, x74, x75, x76, x77, x78] at ea
  rw [ea]
  clear ea x55 x0 x1 x2 x3 x4 x5 x6 x7 x8 x9 x10 x11 x12 x13 x14 x15 x16 x17 x18 x19 x20 x21 x22 x23 x24 x25 x26 x27 x28 x29 x30 x31 x32 x33 x34 x35 x36 x37 x38 x39 x40 x41 x42 x43 x44 x45 x46 x47 x48 x49 x50 x51 x52 x53 x54 x69 x70 x71 x72 x73 x74 x75 x76 x77 x78 hPhi κ hdf hsz
  generalize a.tmps.getD 56 undef = u56, a.tmps.getD 57 undef = u57, a.tmps.getD 58 undef = u58, a.tmps.getD 59 undef = u59, a.tmps.getD 60 undef = u60, a.tmps.getD 61 undef = u61, a.tmps.getD 62 undef = u62, a.tmps.getD 63 undef = u63, a.tmps.getD 64 undef = u64, a.tmps.getD 65 undef = u65, a.tmps.getD 66 undef = u66, a.tmps.getD 67 undef = u67, a.tmps.getD 68 undef = u68
  clear a
  clear hpk1 hpk2 m4 m4' m3 e0 e1 e2 e3 e4 e5 e6 d6 y0' y1' y2' y3' y4' y5' y6'
  have B7 := ι (show Below wr.heap.size wr w7 from B6.out.trans (hI.mono GN.out))
  have F7 := ι (F6.out.below hI hXN)
  have BW7 := ι (show Below w.heap.size w w7 from BW.out.trans (B7.out.mono BW.out.size))
  clear hI HSZ F6 G6 B6
  cases hr : (pk && !ls) with
  | true =>
   have H3 := ι (show dcE d = 8 by
    have e : evN d k x = 8 := by rw [HN2.out, if_pos hr]
    have e2 : evL d 0 d.evs = 8 := by rw [← HF.out, HD.out, e, if_neg (by decide)]
    rw [HE.out, if_pos (by rw [e2]; decide), e2])
   go_wp2_with fail
   go_ret
   exact ⟨by rw [H3.out]; rfl, BW7.out⟩
  | false =>
  have HN3 := ι (show evN d k x = if tk = true then 7 else 0 by rw [HN2.out, if_neg (by rw [hr]; decide)])
  clear hr HN2
  cases tk with
  | true =>
   have H3 := ι (show dcE d = 7 by
    have e : evN d k x = 7 := by rw [HN3.out, if_pos rfl]
    have e2 : evL d 0 d.evs = 7 := by rw [← HF.out, HD.out, e, if_neg (by decide)]
    rw [HE.out, if_pos (by rw [e2]; decide), e2])
   go_wp2_with fail
   go_ret
   exact ⟨by rw [H3.out]; rfl, BW7.out⟩
  | false =>
  have e0' : evN d k x = 0 := by rw [HN3.out, if_neg (by decide)]
  have H3 := ι (show evL d (k + 1) (d.evs.drop (k + 1)) = evL d 0 d.evs by rw [← HF.out, HD.out, if_pos e0'])
  have KN := ι (KR.out.next HX0.out ⟨HSR.out, HZ.out.2.2.1.2, HZ.out.2.2.2⟩)
  have M7 := ι (MR.out.ext B7.out)
  have fq := F7.out.cell
  have hX7 := F7.out.lt
  unfold Ev.cs at fq
  have BM7 := ι (show Below M w4 w7 from BR.out.trans (B7.out.mono (Nat.le_of_lt hMr)))
  clear e0' HN3 HF HD
  go_wp2_with (at_mapUpdate; refine wpList_putI rfl _ _ _ rfl rfl M7.out (by unfold maxLen; omega) x.id HID.out (k : Int) rfl rfl ?_; intro wm hm hg)
  clear fq
  have MM := ι (show MapI wm M (k + 1) (mpF d.evs (k + 1)) by rw [mpF_succ HX0.out]; exact hm)
  have BM := ι (show Below M w4 wm from BM7.out.grown hg (by have := BM7.out.size; have := M7.out.lt; omega) (fun k' hk' => by cases hk'; exact Nat.le_refl _))
  clear hm hg
  go_roundw
  case rel => exact ⟨k + 1, by have := HI.out.2; omega, by go_num, H3, BM, MM, KN⟩
  case measure => simp [intOf]; have := HI.out.2; omega
 obtain rfl : k = d.evs.length := by omega
 have e0 : evL d 0 d.evs = 0 := by rw [← HF.out, List.drop_length]; rfl
 have H3 := ι (show dcE d = cmsE d (mpF d.evs d.evs.length) by rw [HE.out, if_neg (by rw [e0]; simp)])
 have fq := FR.out.cell
 have hGr : G < wr.heap.size := FR.out.lt
 unfold Dc.cs at fq
 clear hlt HF e0
 go_wp2_with fail
 refine (HCMS.out M _ _ wr BW.out MR.out KR.out HLS.out).mono ?_
 rintro e' w9 ⟨rfl, hb⟩
 clear fq
 go_wp2_with fail
 go_ret
 exact ⟨by rw [H3.out]; rfl, BW.out.trans (hb.mono BW.out.size)⟩
end Go.Proofs.YtmopjhbfobmklaaGreatDoor
