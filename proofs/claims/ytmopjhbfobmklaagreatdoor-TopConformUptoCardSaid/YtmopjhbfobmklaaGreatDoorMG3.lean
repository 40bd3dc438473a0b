/-
  The contract of Check of edl. Its conditions are its hypotheses.
-/
import Derived.Test.YtmopjhbfobmklaaGreatDoorMG2
namespace Go.Proofs.YtmopjhbfobmklaaGreatDoor
open Go.RowKit Go.Joins
set_option linter.unusedVariables false
set_option linter.unusedSimpArgs false
/-- The error of the k-th cut. -/
def cutN (l : List Ct) (day : Int) (k : Nat) (x : Ct) : Int :=
 if x.num < 1 ∨ 999 < x.num then 2 else if (match prv l k with | some y => decide (x.num ≤ y.num) | none => false) = true then 8 else if cutE x day ≠ 0 then cutE x day else if (match prv l k with | some y => decide (x.i < y.o) | none => false) = true then 14 else 0
def cutL (l : List Ct) (day : Int) : Nat → List Ct → Int
 | _, [] => 0
 | k, x :: t => if cutN l day k x = 0 then cutL l day (k + 1) t else cutN l day k x
theorem cutL_drop {l : List Ct} {day : Int} {k : Nat} {x : Ct} (hk : l[k]? = some x) : cutL l day k (l.drop k) = if cutN l day k x = 0 then cutL l day (k + 1) (l.drop (k + 1)) else cutN l day k x := by
 rw [List.drop_eq_getElem_cons (List.getElem?_eq_some_iff.1 hk).1, (List.getElem?_eq_some_iff.1 hk).2]
 rfl
/-- The first error of a list. -/
def lstE (d : Lst) : Int :=
 if valV (sB d.title) = false then 10 else if 400 < d.title.length then 9 else if rateD d.rate d.drop ≠ 0 then 13 else if 64 < d.cuts.length then 9 else if cutL d.cuts (dayV d.rate d.drop) 0 d.cuts ≠ 0 then cutL d.cuts (dayV d.rate d.drop) 0 d.cuts else if 16 < relsN d.cuts then 9 else 0
/-- A list whose numbers and texts are those of a machine. -/
structure LsOk (d : Lst) : Prop where
 title : d.title.length ≤ 2000000
 rate : 0 ≤ d.rate ∧ d.rate ≤ 255
 cutl : d.cuts.length ≤ 2000000
 cuts : ∀ x ∈ d.cuts, CtOk x
theorem rateD_iff (r : Int) (d : Bool) : rateD r d ≠ 0 ↔ (!rtOk r || (d && !(rt r).drop)) = true := by
 unfold rateD
 split
 ·rename_i h; exact ⟨fun _ => h, fun _ => by decide⟩
 ·rename_i h; exact ⟨fun h' => absurd rfl h', fun h' => absurd h' h⟩
def PhiL2Y (X G g2 o2 m k n' cc : Nat) (x y : Ct) (pk : Bool) : Nat → Value → Prop
 | 58, v => v = .int .i64 (k : Int)
 | 59, v => v = .bool (pk)
 | 60, v => v = .bool (pk)
 | 61, v => (pk = true → v = .pointer (some ⟨X, 0, none⟩)) ∧ (¬ (pk = true) → v = undef)
 | 62, v => (pk = true → v = .int .i64 x.num) ∧ (¬ (pk = true) → v = undef)
 | 63, v => (pk = true → v = .pointer (some ⟨G, 3, none⟩)) ∧ (¬ (pk = true) → v = undef)
 | 64, v => (pk = true → v = .slice (some ⟨g2, o2, none⟩) n' cc) ∧ (¬ (pk = true) → v = undef)
 | 65, v => (pk = true → v = .int .i64 (k : Int)) ∧ (¬ (pk = true) → v = undef)
 | 66, v => (pk = true → v = .int .i64 (m : Int)) ∧ (¬ (pk = true) → v = undef)
 | 67, v => (pk = true → v = .pointer (some ⟨g2, o2 + m * 7, none⟩)) ∧ (¬ (pk = true) → v = undef)
 | 68, v => (pk = true → v = .pointer (some ⟨g2, o2 + m * 7, none⟩)) ∧ (¬ (pk = true) → v = undef)
 | 69, v => (pk = true → v = .int .i64 y.num) ∧ (¬ (pk = true) → v = undef)
 | 70, v => (pk = true → v = .bool (decide (x.num ≤ y.num))) ∧ (¬ (pk = true) → v = undef)
 | 71, v => v = .bool (pk && (decide (x.num ≤ y.num)))
 | _, _ => True
def PhiL2 (X G g2 o2 m k n' cc : Nat) (x y : Ct) (pk : Bool) (sl : Nat) (v : Value) (w : World) : Prop := PhiL2Y X G g2 o2 m k n' cc x y pk sl v
def PhiL3Y (X G g2 o2 m k n' cc : Nat) (x y : Ct) (pk : Bool) : Nat → Value → Prop
 | 78, v => v = .int .i64 (k : Int)
 | 79, v => v = .bool (pk)
 | 80, v => v = .bool (pk)
 | 81, v => (pk = true → v = .pointer (some ⟨X, 3, none⟩)) ∧ (¬ (pk = true) → v = undef)
 | 82, v => (pk = true → v = .pointer (some ⟨X, 3, none⟩)) ∧ (¬ (pk = true) → v = undef)
 | 83, v => (pk = true → v = .int .i64 x.i) ∧ (¬ (pk = true) → v = undef)
 | 84, v => (pk = true → v = .pointer (some ⟨G, 3, none⟩)) ∧ (¬ (pk = true) → v = undef)
 | 85, v => (pk = true → v = .slice (some ⟨g2, o2, none⟩) n' cc) ∧ (¬ (pk = true) → v = undef)
 | 86, v => (pk = true → v = .int .i64 (k : Int)) ∧ (¬ (pk = true) → v = undef)
 | 87, v => (pk = true → v = .int .i64 (m : Int)) ∧ (¬ (pk = true) → v = undef)
 | 88, v => (pk = true → v = .pointer (some ⟨g2, o2 + m * 7, none⟩)) ∧ (¬ (pk = true) → v = undef)
 | 89, v => (pk = true → v = .pointer (some ⟨g2, o2 + m * 7 + 3, none⟩)) ∧ (¬ (pk = true) → v = undef)
 | 90, v => (pk = true → v = .pointer (some ⟨g2, o2 + m * 7 + 3 + 1, none⟩)) ∧ (¬ (pk = true) → v = undef)
 | 91, v => (pk = true → v = .int .i64 y.o) ∧ (¬ (pk = true) → v = undef)
 | 92, v => (pk = true → v = .bool (decide (x.i < y.o))) ∧ (¬ (pk = true) → v = undef)
 | 93, v => v = .bool (pk && (decide (x.i < y.o)))
 | _, _ => True
def PhiL3 (X G g2 o2 m k n' cc : Nat) (x y : Ct) (pk : Bool) (sl : Nat) (v : Value) (w : World) : Prop := PhiL3Y X G g2 o2 m k n' cc x y pk sl v
set_option maxRecDepth 100000 in
set_option maxHeartbeats 16000000 in
theorem lcheck_any (d : Lst) (c : Value) (w : World) (hd : CutsAt w c d.cuts) (ho : LsOk d) (hw : Wt w) :
  Calls Tryz.prog 36 #[d.v c] w fun e' w' => e' = .returned (.int .i64 (lstE d)) ∧ Below w.heap.size w w' := by
 have HW := Lib.hid hw
 have HDO := Lib.hid hd
 have HO := Lib.hid ho
 obtain ⟨A, cc, rfl⟩ := hd.form
 clear hw hd ho
 obtain ⟨vt, hvt⟩ : ∃ b, b = valV (sB d.title) := ⟨_, rfl⟩
 obtain ⟨day, hday⟩ : ∃ q, q = dayV d.rate d.drop := ⟨_, rfl⟩
 obtain ⟨ro, hro⟩ : ∃ b, b = rtOk d.rate := ⟨_, rfl⟩
 obtain ⟨rc, hrc⟩ : ∃ b, b = (rt d.rate).drop := ⟨_, rfl⟩
 obtain ⟨nr, hnr⟩ : ∃ n, n = relsN d.cuts := ⟨_, rfl⟩
 have HE0 := Lib.hid (show lstE d = if vt = false then 10 else if 400 < d.title.length then 9 else if (!ro || (d.drop && !rc)) = true then 13 else if 64 < d.cuts.length then 9 else if cutL d.cuts day 0 d.cuts ≠ 0 then cutL d.cuts day 0 d.cuts else if 16 < nr then 9 else 0 by
  rw [hvt, hday, hro, hrc, hnr]
  unfold lstE
  simp only [rateD_iff])
 have HV := Lib.hid (fun W (hb : Below w.heap.size w W) => hvt ▸ valid_text (sB d.title) W (by rw [sB_size]; have := HO.out.title; omega) (HW.out.on hb))
 have HRO := Lib.hid (fun W => hro ▸ valid_any d.rate HO.out.rate.1 HO.out.rate.2 W)
 have HRC := Lib.hid (fun W => hrc ▸ canDrop_any d.rate HO.out.rate.1 HO.out.rate.2 W)
 have HDY := Lib.hid (fun W => hday ▸ day_any d.rate HO.out.rate.1 HO.out.rate.2 d.drop W)
 have HRL := Lib.hid (show ∀ W, Below w.heap.size w W → Calls Tryz.prog 68 #[d.v (.slice A d.cuts.length cc)] W fun e w' => (∃ A c, e = .returned (.slice A nr c)) ∧ Below W.heap.size W w' from fun W hb => by rw [hnr]; exact reels_any d _ W (HDO.out.ext (Flat.stays _) hb) HO.out.cutl)
 have HDAY := Lib.hid (show day ≤ 5184000 by rw [hday]; exact (dayV_le _ _).2)
 have hsz : (sB d.title).size = d.title.length := sB_size _
 have hcl := HO.out.cutl
 have htl := HO.out.title
 clear hvt hday hro hrc hnr
 obtain ⟨G, hGe⟩ : ∃ G, G = w.heap.size := ⟨_, rfl⟩
 rw [show d.v (.slice A d.cuts.length cc) = .agg #[.string (sB d.title), .int .u8 d.rate, .bool d.drop, .slice A d.cuts.length cc] from rfl] at HRL ⊢
 go_enter Tryz.func36, Tryz.ntmps36
 go_wp2_with fail
 rw [← hGe]
 generalize hw1 : World.alloc _ _ = w1
 have F1 := Lib.hid (show Held w1 G (d.cs (.slice A d.cuts.length cc)) by subst hw1; exact Held.new hGe)
 have B1 := Lib.hid (show Below w.heap.size w w1 by subst hw1; exact Below.more' _ _)
 clear hw1 hGe
 refine (HV.out w1 B1.out).mono ?_
 rintro e' w2 ⟨rfl, hb⟩
 have B2 := Lib.hid (B1.out.trans (hb.mono B1.out.size))
 have F2 := Lib.hid (F1.out.ext hb)
 clear hb F1 B1 HV
 have fq := F2.out.cell
 have hG2 := F2.out.lt
 unfold Lst.cs at fq
 cases vt with
 | false =>
  have H3 := Lib.hid (show lstE d = 10 by rw [HE0.out, if_pos rfl])
  go_wp2_with fail
  go_ret
  exact ⟨by rw [H3.out]; rfl, B2.out⟩
 | true =>
 by_cases h4 : 400 < d.title.length
 ·have H3 := Lib.hid (show lstE d = 9 by rw [HE0.out, if_neg (by decide), if_pos h4])
  have t0 : (400 : Int) < (d.title.length : Int) := by omega
  clear h4
  go_wp2_with fail
  go_ret
  exact ⟨by rw [H3.out]; rfl, B2.out⟩
 have HE1 := Lib.hid (show lstE d = if (!ro || (d.drop && !rc)) = true then 13 else if 64 < d.cuts.length then 9 else if cutL d.cuts day 0 d.cuts ≠ 0 then cutL d.cuts day 0 d.cuts else if 16 < nr then 9 else 0 by rw [HE0.out, if_neg (by decide), if_neg h4])
 have t0 : ¬ (400 : Int) < (d.title.length : Int) := by omega
 clear HE0 h4
 go_wp2_with fail
 clear t0
 refine (HRO.out w2).mono ?_
 rintro e' w2' ⟨rfl, hb⟩
 have B3 := Lib.hid (B2.out.trans (hb.mono B2.out.size))
 have F3 := Lib.hid (F2.out.ext hb)
 clear hb F2 B2 HRO fq hG2
 have fq := F3.out.cell
 have hG3 := F3.out.lt
 unfold Lst.cs at fq
 cases ro with
 | false =>
  have H3 := Lib.hid (show lstE d = 13 by rw [HE1.out]; simp)
  go_wp2_with fail
  go_ret
  exact ⟨by rw [H3.out]; rfl, B3.out⟩
 | true =>
 cases hdd : d.drop with
 | true =>
  rw [hdd] at fq HE1 HDY HRL
  go_wp2_with fail
  refine (HRC.out w2').mono ?_
  rintro e' w3 ⟨rfl, hb⟩
  have B4 := Lib.hid (B3.out.trans (hb.mono B3.out.size))
  have F4 := Lib.hid (F3.out.ext hb)
  clear hb F3 B3 HRC fq hG3
  have B3 := B4
  have F3 := F4
  clear B4 F4
  have fq := F3.out.cell
  have hG3 := F3.out.lt
  unfold Lst.cs at fq
  rw [hdd] at fq
  cases rc with
  | false =>
   have H3 := Lib.hid (show lstE d = 13 by rw [HE1.out]; simp)
   go_wp2_with fail
   go_ret
   exact ⟨by rw [H3.out]; rfl, B3.out⟩
  | true =>
  have HE2 := Lib.hid (show lstE d = if 64 < d.cuts.length then 9 else if cutL d.cuts day 0 d.cuts ≠ 0 then cutL d.cuts day 0 d.cuts else if 16 < nr then 9 else 0 by rw [HE1.out, if_neg (by simp)])
  clear HE1
  by_cases h5 : 64 < d.cuts.length
  ·have H3 := Lib.hid (show lstE d = 9 by rw [HE2.out, if_pos h5])
   have t0 : (64 : Int) < (d.cuts.length : Int) := by omega
   clear h5
   go_wp2_with fail
   go_ret
   exact ⟨by rw [H3.out]; rfl, B3.out⟩
  have HE := Lib.hid (show lstE d = if cutL d.cuts day 0 d.cuts ≠ 0 then cutL d.cuts day 0 d.cuts else if 16 < nr then 9 else 0 by rw [HE2.out, if_neg h5])
  have t0 : ¬ (64 : Int) < (d.cuts.length : Int) := by omega
  clear HE2
  go_wp2_with fail
  clear t0
  refine (HDY.out w3).mono ?_
  rintro e' w4 ⟨rfl, hb⟩
  have B4 := Lib.hid (B3.out.trans (hb.mono B3.out.size))
  have F4 := Lib.hid (F3.out.ext hb)
  clear hb F3 B3 HDY fq hG3
  have fq := F4.out.cell
  have hG4 := F4.out.lt
  unfold Lst.cs at fq
  rw [hdd] at fq
  go_wp2_with fail
  clear fq
  go_loopw [45] (fun i wr => ∃ k : Nat, k ≤ d.cuts.length ∧ i = .int .i64 k ∧ Hid (cutL d.cuts day k (d.cuts.drop k) = cutL d.cuts day 0 d.cuts) ∧ Hid (Below w4.heap.size w4 wr)) (fun i _ => d.cuts.length - (intOf i).toNat)
  case atStart => exact ⟨0, Nat.zero_le _, rfl, Lib.hid rfl, Lib.hid (Below.refl _ _)⟩
  case round =>
   obtain ⟨k, hk, rfl, HF, BR⟩ := hrel
   have BW := Lib.hid (show Below w.heap.size w wr from B4.out.trans (BR.out.mono B4.out.size))
   have FR := Lib.hid (F4.out.below BR.out hG4)
   by_cases hlt : k < d.cuts.length
   ·have hlt2 : (k : Int) < (d.cuts.length : Int) := by omega
    obtain ⟨x, hx⟩ : ∃ x, d.cuts[k]? = some x := ⟨_, List.getElem?_eq_getElem hlt⟩
    have HR := Lib.hid (HDO.out.ext (Flat.stays _) BW.out)
    have HD := Lib.hid (cutL_drop (day := day) hx)
    obtain ⟨g, o, rfl, p0, p1, p2, p3, p4, p5, p6⟩ := CutsAt.get HR.out hx
    obtain ⟨m, y, hmk, hy⟩ : ∃ m y, (0 < k → m + 1 = k) ∧ d.cuts[m]? = some y := by
     by_cases h0 : 0 < k
     ·exact ⟨k - 1, _, fun _ => by omega, List.getElem?_eq_getElem (by omega)⟩
     ·exact ⟨k, _, fun h => absurd h h0, hx⟩
    have HY0 := Lib.hid hy
    have hml : m < d.cuts.length := (List.getElem?_eq_some_iff.1 hy).1
    have HOX := Lib.hid (HO.out.cuts x (List.mem_of_getElem? hx))
    have hgr : g < wr.heap.size := World.block_lt_of_cell? wr _ p0
    obtain ⟨pk, hpk⟩ : ∃ b, b = decide (0 < k) := ⟨_, rfl⟩
    obtain ⟨q, hq⟩ : ∃ q, q = cutE x day := ⟨_, rfl⟩
    have HN := Lib.hid (show cutN d.cuts day k x = if x.num < 1 ∨ 999 < x.num then 2 else if (pk && decide (x.num ≤ y.num)) = true then 8 else if q ≠ 0 then q else if (pk && decide (x.i < y.o)) = true then 14 else 0 by
     have e : (match prv d.cuts k with | some y => decide (x.num ≤ y.num) | none => false) = (pk && decide (x.num ≤ y.num)) ∧ (match prv d.cuts k with | some y => decide (x.i < y.o) | none => false) = (pk && decide (x.i < y.o)) := by
      by_cases h0 : 0 < k
      ·have e : prv d.cuts k = some y := by
        unfold prv
        rw [if_neg (by omega), show k - 1 = m by have := hmk h0; omega]
        exact hy
       rw [e, hpk, show decide (0 < k) = true by simpa using h0, Bool.true_and, Bool.true_and]
       exact ⟨rfl, rfl⟩
      ·have e : prv d.cuts k = none := by
        unfold prv
        rw [if_pos (by omega)]
       rw [e, hpk, show decide (0 < k) = false by simpa using h0, Bool.false_and, Bool.false_and]
       exact ⟨rfl, rfl⟩
     unfold cutN
     rw [e.1, e.2, ← hq])
    have HP := Lib.hid (And.intro hpk (And.intro hmk hml))
    have HCK := Lib.hid (show ∀ W, Calls Tryz.prog 67 #[.agg #[.int .i64 x.num, .string (sB x.reel), .int .i64 x.src, .int .i64 x.i, .int .i64 x.o, .int .i64 x.sn, .int .i64 x.sd], .int .i64 day] W fun e' w' => e' = .returned (.int .i64 q) ∧ Below W.heap.size W w' from fun W => by
     rw [hq]
     exact checkCut_any x day W HOX.out HDAY.out)
    have HI := Lib.hid (And.intro hk hlt)
    clear hx hy hpk hq hmk hml hk
    have fq := FR.out.cell
    have hGr : G < wr.heap.size := FR.out.lt
    unfold Lst.cs at fq
    rw [hdd] at fq
    by_cases hn1 : x.num < 1
    ·have HN0 := Lib.hid (show cutN d.cuts day k x = 2 by rw [HN.out, if_pos (.inl hn1)])
     have H3 := Lib.hid (show lstE d = 2 by
      have e : cutN d.cuts day k x = 2 := by rw [HN0.out]
      have e2 : cutL d.cuts day 0 d.cuts = 2 := by rw [← HF.out, HD.out, e, if_neg (by decide)]
      rw [HE.out, if_pos (by rw [e2]; decide), e2])
     go_wp2_with fail
     go_ret
     exact ⟨by rw [H3.out]; rfl, ((BW.out.alloc BW.out.size _))⟩
    by_cases hn2 : 999 < x.num
    ·have HN0 := Lib.hid (show cutN d.cuts day k x = 2 by rw [HN.out, if_pos (.inr hn2)])
     have H3 := Lib.hid (show lstE d = 2 by
      have e : cutN d.cuts day k x = 2 := by rw [HN0.out]
      have e2 : cutL d.cuts day 0 d.cuts = 2 := by rw [← HF.out, HD.out, e, if_neg (by decide)]
      rw [HE.out, if_pos (by rw [e2]; decide), e2])
     go_wp2_with fail
     go_ret
     exact ⟨by rw [H3.out]; rfl, ((BW.out.alloc BW.out.size _))⟩
    have HN1 := Lib.hid (show cutN d.cuts day k x = if (pk && decide (x.num ≤ y.num)) = true then 8 else if q ≠ 0 then q else if (pk && decide (x.i < y.o)) = true then 14 else 0 by rw [HN.out, if_neg (by omega)])
    clear HN
    go_wp2_with fail
    clear fq hn1 hn2
    generalize hw5 : World.alloc _ _ = w5
    obtain ⟨X, hX⟩ : ∃ X, X = wr.heap.size := ⟨_, rfl⟩
    rw [← hX]
    have F6 := Lib.hid (show Held w5 X x.cs by subst hw5; exact Held.new hX)
    have B6 := Lib.hid (show Below wr.heap.size wr w5 by subst hw5; exact Below.more' _ _)
    have G6 := Lib.hid (FR.out.ext B6.out)
    clear hw5 hX p0 p1 p2 p3 p4 p5 p6
    obtain ⟨N, hN⟩ : ∃ N, N = w5.heap.size := ⟨_, rfl⟩
    have hXN : X < N := by have := F6.out.lt; omega
    have hGN : G < N := by have := G6.out.lt; omega
    obtain ⟨g2, o2, eg, y0', y1', y2', y3', y4', y5', y6'⟩ := CutsAt.get (HR.out.ext (Flat.stays _) B6.out) HY0.out
    obtain ⟨rfl, rfl⟩ : g2 = g ∧ o2 = o := by
     injection eg with e
     injection e with e1 e2
     exact ⟨e1.symm, e2.symm⟩
    clear eg
    have hgN : g2 < N := by have h : g2 < w5.heap.size := World.block_lt_of_cell? w5 _ y0'; omega
    have GN := Lib.hid (show wr.heap.size ≤ N by have := B6.out.size; omega)
    clear hN
    have e0 : w5.cell? ⟨X, 0, none⟩ = some (.int .i64 x.num) := F6.out.cell 0
    have e3 : w5.cell? ⟨X, 3, none⟩ = some (.int .i64 x.i) := F6.out.cell 3
    have d3 : w5.cell? ⟨G, 3, none⟩ = some (.slice (some ⟨g2, o2, none⟩) d.cuts.length cc) := G6.out.cell 3
    have hpk1 : decide ((0 : Int) < (k : Int)) = pk := by rw [HP.out.1]; simp
    have hpk2 : decide (0 < k) = pk := HP.out.1.symm
    have m4 : (m : Int) < (d.cuts.length : Int) := by have := HP.out.2.2; omega
    have m4' : m < d.cuts.length := HP.out.2.2
    have m3 : pk = true → IntKind.i64.wrap ((k : Int) - 1) = (m : Int) := fun h => by
     have := HP.out.2.1 (of_decide_eq_true (HP.out.1.symm.trans h))
     rw [IntKind.wrap_i64]
     omega
    refine wp_region_spec (by kernel_rfl) (fun w' => Below N w5 w') (PhiL2 X G g2 o2 m k d.cuts.length cc x y pk) 99 rfl (by kernel_rfl) (Below.refl _ _).drew ?hops ?hend
    case hops =>
     refine ⟨?o0, ?o1, ?o2, ?o3, ?o4, ?o5, ?o6, ?o7, ?o8, ?o9, ?o10, ?o11, ?o12, ?o13, trivial⟩
     case o0 =>
      intro ev w8 hI hdep hfree
      have a4 : ev 4 = .int .i64 (k : Int) := hfree 4 (by kernel_rfl)
      clear hdep hfree
      try dsimp only
      simp [OpRuns, execOp, evalOf, a4, go_sem]
      exact ⟨hI, rfl⟩
     case o1 =>
      intro ev w8 hI hdep hfree
      have a58 : ev 58 = .int .i64 (k : Int) := hdep 0 58 (by kernel_rfl) (by kernel_rfl)
      clear hdep hfree
      try dsimp only
      simp [OpRuns, execOp, evalOf, a58, go_sem]
      exact ⟨hI, congrArg Value.bool hpk2⟩
     case o2 =>
      intro ev w8 hI hdep hfree
      have a59 : ev 59 = .bool (pk) := hdep 1 59 (by kernel_rfl) (by kernel_rfl)
      clear hdep hfree
      try dsimp only
      simp [OpRuns, execOp, evalOf, a59, go_sem]
      exact ⟨hI, rfl⟩
     case o3 =>
      intro ev w8 hI hdep hfree
      have ag : ev 60 = .bool pk := hdep 2 60 (by kernel_rfl) (by kernel_rfl)
      refine ⟨fun hy => ?_, fun hn d hd => ?_⟩
      rotate_left
      ·cases hd
       exact ⟨fun hr => absurd ((yield_of (by kernel_rfl) ag).trans (congrArg some hr)) hn, fun _ => rfl⟩
      have hR : pk = true := Option.some.inj ((yield_of (by kernel_rfl) ag).symm.trans hy)
      clear hy ag
      have a5 : ev 5 = .pointer (some ⟨X, 0, none⟩) := hfree 5 (by kernel_rfl)
      clear hdep hfree
      try dsimp only
      simp [OpRuns, execOp, evalOf, a5, go_sem]
      exact ⟨hI, ⟨fun _ => rfl, fun h => absurd hR h⟩⟩
     case o4 =>
      intro ev w8 hI hdep hfree
      have ag : ev 60 = .bool pk := hdep 2 60 (by kernel_rfl) (by kernel_rfl)
      refine ⟨fun hy => ?_, fun hn d hd => ?_⟩
      rotate_left
      ·cases hd
       exact ⟨fun hr => absurd ((yield_of (by kernel_rfl) ag).trans (congrArg some hr)) hn, fun _ => rfl⟩
      have hR : pk = true := Option.some.inj ((yield_of (by kernel_rfl) ag).symm.trans hy)
      clear hy ag
      have a61 : ev 61 = .pointer (some ⟨X, 0, none⟩) := (hdep 3 61 (by kernel_rfl) (by kernel_rfl)).1 hR
      have y0 : w8.cell? ⟨X, 0, none⟩ = some (.int .i64 x.num) := (hI.cell (p := ⟨X, 0, none⟩) hXN).trans e0
      clear hdep hfree
      try dsimp only
      simp [OpRuns, execOp, evalOf, a61, y0, go_sem]
      exact ⟨hI, ⟨fun _ => rfl, fun h => absurd hR h⟩⟩
     case o5 =>
      intro ev w8 hI hdep hfree
      have ag : ev 60 = .bool pk := hdep 2 60 (by kernel_rfl) (by kernel_rfl)
      refine ⟨fun hy => ?_, fun hn d hd => ?_⟩
      rotate_left
      ·cases hd
       exact ⟨fun hr => absurd ((yield_of (by kernel_rfl) ag).trans (congrArg some hr)) hn, fun _ => rfl⟩
      have hR : pk = true := Option.some.inj ((yield_of (by kernel_rfl) ag).symm.trans hy)
      clear hy ag
      have a1 : ev 1 = .pointer (some ⟨G, 0, none⟩) := hfree 1 (by kernel_rfl)
      clear hdep hfree
      try dsimp only
      simp [OpRuns, execOp, evalOf, a1, go_sem]
      exact ⟨hI, ⟨fun _ => rfl, fun h => absurd hR h⟩⟩
     case o6 =>
      intro ev w8 hI hdep hfree
      have ag : ev 60 = .bool pk := hdep 2 60 (by kernel_rfl) (by kernel_rfl)
      refine ⟨fun hy => ?_, fun hn d hd => ?_⟩
      rotate_left
      ·cases hd
       exact ⟨fun hr => absurd ((yield_of (by kernel_rfl) ag).trans (congrArg some hr)) hn, fun _ => rfl⟩
      have hR : pk = true := Option.some.inj ((yield_of (by kernel_rfl) ag).symm.trans hy)
      clear hy ag
      have a63 : ev 63 = .pointer (some ⟨G, 3, none⟩) := (hdep 5 63 (by kernel_rfl) (by kernel_rfl)).1 hR
      have y0 : w8.cell? ⟨G, 3, none⟩ = some (.slice (some ⟨g2, o2, none⟩) d.cuts.length cc) := (hI.cell (p := ⟨G, 3, none⟩) hGN).trans d3
      clear hdep hfree
      try dsimp only
      simp [OpRuns, execOp, evalOf, a63, y0, go_sem]
      exact ⟨hI, ⟨fun _ => rfl, fun h => absurd hR h⟩⟩
     case o7 =>
      intro ev w8 hI hdep hfree
      have ag : ev 60 = .bool pk := hdep 2 60 (by kernel_rfl) (by kernel_rfl)
      refine ⟨fun hy => ?_, fun hn d hd => ?_⟩
      rotate_left
      ·cases hd
       exact ⟨fun hr => absurd ((yield_of (by kernel_rfl) ag).trans (congrArg some hr)) hn, fun _ => rfl⟩
      have hR : pk = true := Option.some.inj ((yield_of (by kernel_rfl) ag).symm.trans hy)
      clear hy ag
      have a4 : ev 4 = .int .i64 (k : Int) := hfree 4 (by kernel_rfl)
      clear hdep hfree
      try dsimp only
      simp [OpRuns, execOp, evalOf, a4, go_sem]
      exact ⟨hI, ⟨fun _ => rfl, fun h => absurd hR h⟩⟩
     case o8 =>
      intro ev w8 hI hdep hfree
      have ag : ev 60 = .bool pk := hdep 2 60 (by kernel_rfl) (by kernel_rfl)
      refine ⟨fun hy => ?_, fun hn d hd => ?_⟩
      rotate_left
      ·cases hd
       exact ⟨fun hr => absurd ((yield_of (by kernel_rfl) ag).trans (congrArg some hr)) hn, fun _ => rfl⟩
      have hR : pk = true := Option.some.inj ((yield_of (by kernel_rfl) ag).symm.trans hy)
      clear hy ag
      have m3' := m3 hR
      have a65 : ev 65 = .int .i64 (k : Int) := (hdep 7 65 (by kernel_rfl) (by kernel_rfl)).1 hR
      clear hdep hfree
      try dsimp only
      simp [OpRuns, execOp, evalOf, a65, m3', go_sem]
      exact ⟨hI, ⟨fun _ => rfl, fun h => absurd hR h⟩⟩
     case o9 =>
      intro ev w8 hI hdep hfree
      have ag : ev 60 = .bool pk := hdep 2 60 (by kernel_rfl) (by kernel_rfl)
      refine ⟨fun hy => ?_, fun hn d hd => ?_⟩
      rotate_left
      ·cases hd
       exact ⟨fun hr => absurd ((yield_of (by kernel_rfl) ag).trans (congrArg some hr)) hn, fun _ => rfl⟩
      have hR : pk = true := Option.some.inj ((yield_of (by kernel_rfl) ag).symm.trans hy)
      clear hy ag
      have a64 : ev 64 = .slice (some ⟨g2, o2, none⟩) d.cuts.length cc := (hdep 6 64 (by kernel_rfl) (by kernel_rfl)).1 hR
      have a66 : ev 66 = .int .i64 (m : Int) := (hdep 8 66 (by kernel_rfl) (by kernel_rfl)).1 hR
      clear hdep hfree
      try dsimp only
      simp [OpRuns, execOp, evalOf, a64, a66, m4, m4', go_sem]
      exact ⟨hI, ⟨fun _ => rfl, fun h => absurd hR h⟩⟩
     case o10 =>
      intro ev w8 hI hdep hfree
      have ag : ev 60 = .bool pk := hdep 2 60 (by kernel_rfl) (by kernel_rfl)
      refine ⟨fun hy => ?_, fun hn d hd => ?_⟩
      rotate_left
      ·cases hd
       exact ⟨fun hr => absurd ((yield_of (by kernel_rfl) ag).trans (congrArg some hr)) hn, fun _ => rfl⟩
      have hR : pk = true := Option.some.inj ((yield_of (by kernel_rfl) ag).symm.trans hy)
      clear hy ag
      have a67 : ev 67 = .pointer (some ⟨g2, o2 + m * 7, none⟩) := (hdep 9 67 (by kernel_rfl) (by kernel_rfl)).1 hR
      clear hdep hfree
      try dsimp only
      simp [OpRuns, execOp, evalOf, a67, go_sem]
      exact ⟨hI, ⟨fun _ => rfl, fun h => absurd hR h⟩⟩
     case o11 =>
      intro ev w8 hI hdep hfree
      have ag : ev 60 = .bool pk := hdep 2 60 (by kernel_rfl) (by kernel_rfl)
      refine ⟨fun hy => ?_, fun hn d hd => ?_⟩
      rotate_left
      ·cases hd
       exact ⟨fun hr => absurd ((yield_of (by kernel_rfl) ag).trans (congrArg some hr)) hn, fun _ => rfl⟩
      have hR : pk = true := Option.some.inj ((yield_of (by kernel_rfl) ag).symm.trans hy)
      clear hy ag
      have a68 : ev 68 = .pointer (some ⟨g2, o2 + m * 7, none⟩) := (hdep 10 68 (by kernel_rfl) (by kernel_rfl)).1 hR
      have y0 : w8.cell? ⟨g2, o2 + m * 7, none⟩ = some (.int .i64 y.num) := (hI.cell (p := ⟨g2, o2 + m * 7, none⟩) hgN).trans y0'
      clear hdep hfree
      try dsimp only
      simp [OpRuns, execOp, evalOf, a68, y0, go_sem]
      exact ⟨hI, ⟨fun _ => rfl, fun h => absurd hR h⟩⟩
     case o12 =>
      intro ev w8 hI hdep hfree
      have ag : ev 60 = .bool pk := hdep 2 60 (by kernel_rfl) (by kernel_rfl)
      refine ⟨fun hy => ?_, fun hn d hd => ?_⟩
      rotate_left
      ·cases hd
       exact ⟨fun hr => absurd ((yield_of (by kernel_rfl) ag).trans (congrArg some hr)) hn, fun _ => rfl⟩
      have hR : pk = true := Option.some.inj ((yield_of (by kernel_rfl) ag).symm.trans hy)
      clear hy ag
      have a62 : ev 62 = .int .i64 x.num := (hdep 4 62 (by kernel_rfl) (by kernel_rfl)).1 hR
      have a69 : ev 69 = .int .i64 y.num := (hdep 11 69 (by kernel_rfl) (by kernel_rfl)).1 hR
      clear hdep hfree
      try dsimp only
      simp [OpRuns, execOp, evalOf, a62, a69, go_sem]
      exact ⟨hI, ⟨fun _ => rfl, fun h => absurd hR h⟩⟩
     case o13 =>
      intro ev w8 hI hdep hfree
      have a60 : ev 60 = .bool (pk) := hdep 2 60 (by kernel_rfl) (by kernel_rfl)
      have ax : pk = true → ev 70 = .bool (decide (x.num ≤ y.num)) := fun hc => (hdep 12 70 (by kernel_rfl) (by kernel_rfl)).1 hc
      clear hdep hfree
      obtain ⟨cc, hcc⟩ : ∃ cc, cc = pk := ⟨_, rfl⟩
      rw [← hcc] at a60
      cases cc with
      | true =>
       have ax := ax hcc.symm
       have hv : (Value.bool (decide (x.num ≤ y.num))) = (Value.bool (pk && (decide (x.num ≤ y.num)))) := by rw [← hcc]; simp
       clear hcc
       try dsimp only
       simp [OpRuns, execOp, evalOf, a60, ax, go_sem]
       exact ⟨hI, hv⟩
      | false =>
       clear ax
       have hv : Value.bool false = (Value.bool (pk && (decide (x.num ≤ y.num)))) := by rw [← hcc]; simp
       clear hcc
       try dsimp only
       simp [OpRuns, execOp, evalOf, a60, go_sem]
       exact ⟨hI, hv⟩
    case hend =>
     intro a w7 hdf hsz hI hPhi hkept
     replace hdf : a.defers = [] := hdf
     replace hsz : a.tmps.size = 99 := hsz
     have x71 : a.tmps.getD 71 undef = .bool (pk && (decide (x.num ≤ y.num))) := hPhi 13 71 (by kernel_rfl)
     have x0 : a.tmps.getD 0 undef = Value.agg #[Value.string (sB d.title), Value.int IntKind.u8 d.rate, Value.bool true, Value.slice (some { block := g2, off := o2 }) d.cuts.length cc] := hkept 0 (kept_all (by kernel_rfl))
     have x1 : a.tmps.getD 1 undef = Value.pointer (some { block := G, off := 0 }) := hkept 1 (kept_all (by kernel_rfl))
     have x2 : a.tmps.getD 2 undef = u2 := hkept 2 (kept_all (by kernel_rfl))
     have x3 : a.tmps.getD 3 undef = Value.int IntKind.i64 day := hkept 3 (kept_all (by kernel_rfl))
     have x4 : a.tmps.getD 4 undef = Value.int IntKind.i64 (↑k : Int) := hkept 4 (kept_all (by kernel_rfl))
     have x5 : a.tmps.getD 5 undef = Value.pointer (some { block := X, off := 0 }) := hkept 5 (kept_all (by kernel_rfl))
     have x6 : a.tmps.getD 6 undef = u6 := hkept 6 (kept_all (by kernel_rfl))
     have x7 : a.tmps.getD 7 undef = Value.bool false := hkept 7 (kept_all (by kernel_rfl))
     have x8 : a.tmps.getD 8 undef = Value.pointer (some { block := G, off := 0 }) := hkept 8 (kept_all (by kernel_rfl))
     have x9 : a.tmps.getD 9 undef = Value.string (sB d.title) := hkept 9 (kept_all (by kernel_rfl))
     have x10 : a.tmps.getD 10 undef = Value.bool true := hkept 10 (kept_all (by kernel_rfl))
     have x11 : a.tmps.getD 11 undef = Value.bool false := hkept 11 (kept_all (by kernel_rfl))
     have x12 : a.tmps.getD 12 undef = Value.bool (decide (400 < (↑d.title.length : Int))) := hkept 12 (kept_all (by kernel_rfl))
     have x13 : a.tmps.getD 13 undef = Value.pointer (some { block := G, off := 0 }) := hkept 13 (kept_all (by kernel_rfl))
     have x14 : a.tmps.getD 14 undef = Value.string (sB d.title) := hkept 14 (kept_all (by kernel_rfl))
     have x15 : a.tmps.getD 15 undef = Value.int IntKind.i64 (↑d.title.length : Int) := hkept 15 (kept_all (by kernel_rfl))
     have x16 : a.tmps.getD 16 undef = Value.bool (decide (400 < (↑d.title.length : Int))) := hkept 16 (kept_all (by kernel_rfl))
     have x17 : a.tmps.getD 17 undef = Value.bool false := hkept 17 (kept_all (by kernel_rfl))
     have x18 : a.tmps.getD 18 undef = Value.pointer (some { block := G, off := 1 }) := hkept 18 (kept_all (by kernel_rfl))
     have x19 : a.tmps.getD 19 undef = Value.int IntKind.u8 d.rate := hkept 19 (kept_all (by kernel_rfl))
     have x20 : a.tmps.getD 20 undef = Value.bool true := hkept 20 (kept_all (by kernel_rfl))
     have x21 : a.tmps.getD 21 undef = Value.bool false := hkept 21 (kept_all (by kernel_rfl))
     have x22 : a.tmps.getD 22 undef = Value.bool false := hkept 22 (kept_all (by kernel_rfl))
     have x23 : a.tmps.getD 23 undef = Value.pointer (some { block := G, off := 2 }) := hkept 23 (kept_all (by kernel_rfl))
     have x24 : a.tmps.getD 24 undef = Value.bool true := hkept 24 (kept_all (by kernel_rfl))
     have x25 : a.tmps.getD 25 undef = Value.bool true := hkept 25 (kept_all (by kernel_rfl))
     have x26 : a.tmps.getD 26 undef = Value.pointer (some { block := G, off := 1 }) := hkept 26 (kept_all (by kernel_rfl))
     have x27 : a.tmps.getD 27 undef = Value.int IntKind.u8 d.rate := hkept 27 (kept_all (by kernel_rfl))
     have x28 : a.tmps.getD 28 undef = Value.bool true := hkept 28 (kept_all (by kernel_rfl))
     have x29 : a.tmps.getD 29 undef = Value.bool false := hkept 29 (kept_all (by kernel_rfl))
     have x30 : a.tmps.getD 30 undef = Value.bool false := hkept 30 (kept_all (by kernel_rfl))
     have x31 : a.tmps.getD 31 undef = Value.bool false := hkept 31 (kept_all (by kernel_rfl))
     have x32 : a.tmps.getD 32 undef = Value.bool (decide (64 < (↑d.cuts.length : Int))) := hkept 32 (kept_all (by kernel_rfl))
     have x33 : a.tmps.getD 33 undef = Value.pointer (some { block := G, off := 3 }) := hkept 33 (kept_all (by kernel_rfl))
     have x34 : a.tmps.getD 34 undef = Value.slice (some { block := g2, off := o2 }) d.cuts.length cc := hkept 34 (kept_all (by kernel_rfl))
     have x35 : a.tmps.getD 35 undef = Value.int IntKind.i64 (↑d.cuts.length : Int) := hkept 35 (kept_all (by kernel_rfl))
     have x36 : a.tmps.getD 36 undef = Value.bool (decide (64 < (↑d.cuts.length : Int))) := hkept 36 (kept_all (by kernel_rfl))
     have x37 : a.tmps.getD 37 undef = Value.pointer (some { block := G, off := 1 }) := hkept 37 (kept_all (by kernel_rfl))
     have x38 : a.tmps.getD 38 undef = Value.int IntKind.u8 d.rate := hkept 38 (kept_all (by kernel_rfl))
     have x39 : a.tmps.getD 39 undef = Value.pointer (some { block := G, off := 2 }) := hkept 39 (kept_all (by kernel_rfl))
     have x40 : a.tmps.getD 40 undef = Value.bool true := hkept 40 (kept_all (by kernel_rfl))
     have x41 : a.tmps.getD 41 undef = Value.int IntKind.i64 day := hkept 41 (kept_all (by kernel_rfl))
     have x42 : a.tmps.getD 42 undef = Value.pointer (some { block := G, off := 3 }) := hkept 42 (kept_all (by kernel_rfl))
     have x43 : a.tmps.getD 43 undef = Value.slice (some { block := g2, off := o2 }) d.cuts.length cc := hkept 43 (kept_all (by kernel_rfl))
     have x44 : a.tmps.getD 44 undef = Value.int IntKind.i64 (↑d.cuts.length : Int) := hkept 44 (kept_all (by kernel_rfl))
     have x45 : a.tmps.getD 45 undef = Value.int IntKind.i64 (↑k : Int) := hkept 45 (kept_all (by kernel_rfl))
     have x46 : a.tmps.getD 46 undef = Value.bool true := hkept 46 (kept_all (by kernel_rfl))
     have x47 : a.tmps.getD 47 undef = Value.int IntKind.i64 (↑k : Int) := hkept 47 (kept_all (by kernel_rfl))
     have x48 : a.tmps.getD 48 undef = Value.pointer (some { block := g2, off := o2 + k * 7 }) := hkept 48 (kept_all (by kernel_rfl))
     have x49 : a.tmps.getD 49 undef = Value.agg #[Value.int IntKind.i64 x.num, Value.string (sB x.reel), Value.int IntKind.i64 x.src, Value.int IntKind.i64 x.i, Value.int IntKind.i64 x.o, Value.int IntKind.i64 x.sn, Value.int IntKind.i64 x.sd] := hkept 49 (kept_all (by kernel_rfl))
     have x50 : a.tmps.getD 50 undef = Value.pointer (some { block := X, off := 0 }) := hkept 50 (kept_all (by kernel_rfl))
     have x51 : a.tmps.getD 51 undef = Value.int IntKind.i64 x.num := hkept 51 (kept_all (by kernel_rfl))
     have x52 : a.tmps.getD 52 undef = Value.bool false := hkept 52 (kept_all (by kernel_rfl))
     have x53 : a.tmps.getD 53 undef = Value.bool false := hkept 53 (kept_all (by kernel_rfl))
     have x54 : a.tmps.getD 54 undef = Value.pointer (some { block := X, off := 0 }) := hkept 54 (kept_all (by kernel_rfl))
     have x55 : a.tmps.getD 55 undef = Value.int IntKind.i64 x.num := hkept 55 (kept_all (by kernel_rfl))
     have x56 : a.tmps.getD 56 undef = Value.bool false := hkept 56 (kept_all (by kernel_rfl))
     have x57 : a.tmps.getD 57 undef = Value.bool false := hkept 57 (kept_all (by kernel_rfl))
     have x72 : a.tmps.getD 72 undef = u72 := hkept 72 (kept_all (by kernel_rfl))
     have x73 : a.tmps.getD 73 undef = u73 := hkept 73 (kept_all (by kernel_rfl))
     have x74 : a.tmps.getD 74 undef = u74 := hkept 74 (kept_all (by kernel_rfl))
     have x75 : a.tmps.getD 75 undef = u75 := hkept 75 (kept_all (by kernel_rfl))
     have x76 : a.tmps.getD 76 undef = u76 := hkept 76 (kept_all (by kernel_rfl))
     have x77 : a.tmps.getD 77 undef = u77 := hkept 77 (kept_all (by kernel_rfl))
     have x78 : a.tmps.getD 78 undef = u78 := hkept 78 (kept_all (by kernel_rfl))
     have x79 : a.tmps.getD 79 undef = u79 := hkept 79 (kept_all (by kernel_rfl))
     have x80 : a.tmps.getD 80 undef = u80 := hkept 80 (kept_all (by kernel_rfl))
     have x81 : a.tmps.getD 81 undef = u81 := hkept 81 (kept_all (by kernel_rfl))
     have x82 : a.tmps.getD 82 undef = u82 := hkept 82 (kept_all (by kernel_rfl))
     have x83 : a.tmps.getD 83 undef = u83 := hkept 83 (kept_all (by kernel_rfl))
     have x84 : a.tmps.getD 84 undef = u84 := hkept 84 (kept_all (by kernel_rfl))
     have x85 : a.tmps.getD 85 undef = u85 := hkept 85 (kept_all (by kernel_rfl))
     have x86 : a.tmps.getD 86 undef = u86 := hkept 86 (kept_all (by kernel_rfl))
     have x87 : a.tmps.getD 87 undef = u87 := hkept 87 (kept_all (by kernel_rfl))
     have x88 : a.tmps.getD 88 undef = u88 := hkept 88 (kept_all (by kernel_rfl))
     have x89 : a.tmps.getD 89 undef = u89 := hkept 89 (kept_all (by kernel_rfl))
     have x90 : a.tmps.getD 90 undef = u90 := hkept 90 (kept_all (by kernel_rfl))
     have x91 : a.tmps.getD 91 undef = u91 := hkept 91 (kept_all (by kernel_rfl))
     have x92 : a.tmps.getD 92 undef = u92 := hkept 92 (kept_all (by kernel_rfl))
     have x93 : a.tmps.getD 93 undef = u93 := hkept 93 (kept_all (by kernel_rfl))
     have x94 : a.tmps.getD 94 undef = u94 := hkept 94 (kept_all (by kernel_rfl))
     have x95 : a.tmps.getD 95 undef = undef := hkept 95 (kept_all (by kernel_rfl))
     have x96 : a.tmps.getD 96 undef = undef := hkept 96 (kept_all (by kernel_rfl))
     have x97 : a.tmps.getD 97 undef = undef := hkept 97 (kept_all (by kernel_rfl))
     have x98 : a.tmps.getD 98 undef = undef := hkept 98 (kept_all (by kernel_rfl))
     have ea := act_lit hsz hdf
     simp only [getDs] at ea
     rw [x71, x0, x1, x2, x3, x4, x5, x6, x7, x8, x9, x10, x11, x12, x13, x14, x15, x16, x17, x18, x19, x20, x21, x22, x23, x24, x25, x26, x27, x28, x29, x30, x31, x32, x33, x34, x35, x36, x37, x38, x39, x40, x41, x42, x43, x44, x45, x46, x47, x48, x49, x50, x51, x52, x53, x54, x55, x56, x57, x72, x73, x74, x75, x76, x77, x78, x79, x80, x81, x82, x83, x84, x85, x86, x87, x88, x89, x90, x91, x92, x93, x94, x95, x96, x97, x98] at ea
     rw [ea]
     clear ea x71 x0 x1 x2 x3 x4 x5 x6 x7 x8 x9 x10 x11 x12 x13 x14 x15 x16 x17 x18 x19 x20 x21 x22 x23 x24 x25 x26 x27 x28 x29 x30 x31 x32 x33 x34 x35 x36 x37 x38 x39 x40 x41 x42 x43 x44 x45 x46 x47 x48 x49 x50 x51 x52 x53 x54 x55 x56 x57 x72 x73 x74 x75 x76 x77 x78 x79 x80 x81 x82 x83 x84 x85 x86 x87 x88 x89 x90 x91 x92 x93 x94 x95 x96 x97 x98 hPhi hkept hdf hsz
     generalize a.tmps.getD 58 undef = u58
     generalize a.tmps.getD 59 undef = u59
     generalize a.tmps.getD 60 undef = u60
     generalize a.tmps.getD 61 undef = u61
     generalize a.tmps.getD 62 undef = u62
     generalize a.tmps.getD 63 undef = u63
     generalize a.tmps.getD 64 undef = u64
     generalize a.tmps.getD 65 undef = u65
     generalize a.tmps.getD 66 undef = u66
     generalize a.tmps.getD 67 undef = u67
     generalize a.tmps.getD 68 undef = u68
     generalize a.tmps.getD 69 undef = u69
     generalize a.tmps.getD 70 undef = u70
     clear a
     clear hpk1 hpk2 m4 m4' m3 e0 e3 d3 y0' y1' y2' y3' y4' y5' y6'
     have B7 := Lib.hid (show Below wr.heap.size wr w7 from B6.out.trans (hI.mono GN.out))
     have F7 := Lib.hid (F6.out.below hI hXN)
     have BW7 := Lib.hid (show Below w.heap.size w w7 from BW.out.trans (B7.out.mono BW.out.size))
     clear hI F6 B6 hXN hGN hgN GN
     cases hr : (pk && decide (x.num ≤ y.num)) with
     | true =>
      have H3 := Lib.hid (show lstE d = 8 by
       have e : cutN d.cuts day k x = 8 := by rw [HN1.out, if_pos hr]
       have e2 : cutL d.cuts day 0 d.cuts = 8 := by rw [← HF.out, HD.out, e, if_neg (by decide)]
       rw [HE.out, if_pos (by rw [e2]; decide), e2])
      go_wp2_with fail
      go_ret
      exact ⟨by rw [H3.out]; rfl, BW7.out⟩
     | false =>
     have HN2 := Lib.hid (show cutN d.cuts day k x = if q ≠ 0 then q else if (pk && decide (x.i < y.o)) = true then 14 else 0 by rw [HN1.out, if_neg (by rw [hr]; decide)])
     clear hr HN1
     have fq := F7.out.cell
     have hX7 := F7.out.lt
     unfold Ct.cs at fq
     go_wp2_with fail
     refine (HCK.out w7).mono ?_
     rintro e' w8 ⟨rfl, hb⟩
     have B8 := Lib.hid (B7.out.trans (hb.mono B7.out.size))
     have F8 := Lib.hid (F7.out.ext hb)
     have BW8 := Lib.hid (show Below w.heap.size w w8 from BW.out.trans (B8.out.mono BW.out.size))
     have G8 := Lib.hid (FR.out.ext B8.out)
     clear hb fq hX7 F7 B7 BW7 HCK
     by_cases hq0' : q ≠ 0
     ·have t0 : (q != 0) = true := by simpa using hq0'
      have H3 := Lib.hid (show lstE d = q by
       have e : cutN d.cuts day k x = q := by rw [HN2.out, if_pos hq0']
       have e2 : cutL d.cuts day 0 d.cuts = q := by rw [← HF.out, HD.out, e, if_neg (by exact hq0')]
       rw [HE.out, if_pos (by rw [e2]; exact hq0'), e2])
      go_wp2_with fail
      go_ret
      exact ⟨by rw [H3.out]; rfl, BW8.out⟩
     have hq0 : q = 0 := by omega
     clear hq0'
     have HN3 := Lib.hid (show cutN d.cuts day k x = if (pk && decide (x.i < y.o)) = true then 14 else 0 by rw [HN2.out, if_neg (by omega)])
     subst hq0
     clear HN2
     have fq := F8.out.cell
     have hX8 := F8.out.lt
     unfold Ct.cs at fq
     go_wp2_with fail
     clear fq hX8
     obtain ⟨N, hN⟩ : ∃ N, N = w8.heap.size := ⟨_, rfl⟩
     have hXN : X < N := by have := F8.out.lt; omega
     have hGN : G < N := by have := G8.out.lt; omega
     obtain ⟨g3, o3, eg, y0', y1', y2', y3', y4', y5', y6'⟩ := CutsAt.get (HR.out.ext (Flat.stays _) B8.out) HY0.out
     obtain ⟨rfl, rfl⟩ : g2 = g3 ∧ o2 = o3 := by
      injection eg with e
      injection e with e1 e2
      exact ⟨e1, e2⟩
     clear eg
     have hgN : g2 < N := by have h : g2 < w8.heap.size := World.block_lt_of_cell? w8 _ y0'; omega
     have GN := Lib.hid (show wr.heap.size ≤ N by have := B8.out.size; omega)
     clear hN
     have e0 : w8.cell? ⟨X, 0, none⟩ = some (.int .i64 x.num) := F8.out.cell 0
     have e3 : w8.cell? ⟨X, 3, none⟩ = some (.int .i64 x.i) := F8.out.cell 3
     have d3 : w8.cell? ⟨G, 3, none⟩ = some (.slice (some ⟨g2, o2, none⟩) d.cuts.length cc) := G8.out.cell 3
     have hpk1 : decide ((0 : Int) < (k : Int)) = pk := by rw [HP.out.1]; simp
     have hpk2 : decide (0 < k) = pk := HP.out.1.symm
     have m4 : (m : Int) < (d.cuts.length : Int) := by have := HP.out.2.2; omega
     have m4' : m < d.cuts.length := HP.out.2.2
     have m3 : pk = true → IntKind.i64.wrap ((k : Int) - 1) = (m : Int) := fun h => by
      have := HP.out.2.1 (of_decide_eq_true (HP.out.1.symm.trans h))
      rw [IntKind.wrap_i64]
      omega
     refine wp_region_spec (by kernel_rfl) (fun w' => Below N w8 w') (PhiL3 X G g2 o2 m k d.cuts.length cc x y pk) 99 rfl (by kernel_rfl) (Below.refl _ _).drew ?hops ?hend
     case hops =>
      refine ⟨?o0, ?o1, ?o2, ?o3, ?o4, ?o5, ?o6, ?o7, ?o8, ?o9, ?o10, ?o11, ?o12, ?o13, ?o14, ?o15, trivial⟩
      case o0 =>
       intro ev w8 hI hdep hfree
       have a4 : ev 4 = .int .i64 (k : Int) := hfree 4 (by kernel_rfl)
       clear hdep hfree
       try dsimp only
       simp [OpRuns, execOp, evalOf, a4, go_sem]
       exact ⟨hI, rfl⟩
      case o1 =>
       intro ev w8 hI hdep hfree
       have a78 : ev 78 = .int .i64 (k : Int) := hdep 0 78 (by kernel_rfl) (by kernel_rfl)
       clear hdep hfree
       try dsimp only
       simp [OpRuns, execOp, evalOf, a78, go_sem]
       exact ⟨hI, congrArg Value.bool hpk2⟩
      case o2 =>
       intro ev w8 hI hdep hfree
       have a79 : ev 79 = .bool (pk) := hdep 1 79 (by kernel_rfl) (by kernel_rfl)
       clear hdep hfree
       try dsimp only
       simp [OpRuns, execOp, evalOf, a79, go_sem]
       exact ⟨hI, rfl⟩
      case o3 =>
       intro ev w8 hI hdep hfree
       have ag : ev 80 = .bool pk := hdep 2 80 (by kernel_rfl) (by kernel_rfl)
       refine ⟨fun hy => ?_, fun hn d hd => ?_⟩
       rotate_left
       ·cases hd
        exact ⟨fun hr => absurd ((yield_of (by kernel_rfl) ag).trans (congrArg some hr)) hn, fun _ => rfl⟩
       have hR : pk = true := Option.some.inj ((yield_of (by kernel_rfl) ag).symm.trans hy)
       clear hy ag
       have a5 : ev 5 = .pointer (some ⟨X, 0, none⟩) := hfree 5 (by kernel_rfl)
       clear hdep hfree
       try dsimp only
       simp [OpRuns, execOp, evalOf, a5, go_sem]
       exact ⟨hI, ⟨fun _ => rfl, fun h => absurd hR h⟩⟩
      case o4 =>
       intro ev w8 hI hdep hfree
       have ag : ev 80 = .bool pk := hdep 2 80 (by kernel_rfl) (by kernel_rfl)
       refine ⟨fun hy => ?_, fun hn d hd => ?_⟩
       rotate_left
       ·cases hd
        exact ⟨fun hr => absurd ((yield_of (by kernel_rfl) ag).trans (congrArg some hr)) hn, fun _ => rfl⟩
       have hR : pk = true := Option.some.inj ((yield_of (by kernel_rfl) ag).symm.trans hy)
       clear hy ag
       have a81 : ev 81 = .pointer (some ⟨X, 3, none⟩) := (hdep 3 81 (by kernel_rfl) (by kernel_rfl)).1 hR
       clear hdep hfree
       try dsimp only
       simp [OpRuns, execOp, evalOf, a81, go_sem]
       exact ⟨hI, ⟨fun _ => rfl, fun h => absurd hR h⟩⟩
      case o5 =>
       intro ev w8 hI hdep hfree
       have ag : ev 80 = .bool pk := hdep 2 80 (by kernel_rfl) (by kernel_rfl)
       refine ⟨fun hy => ?_, fun hn d hd => ?_⟩
       rotate_left
       ·cases hd
        exact ⟨fun hr => absurd ((yield_of (by kernel_rfl) ag).trans (congrArg some hr)) hn, fun _ => rfl⟩
       have hR : pk = true := Option.some.inj ((yield_of (by kernel_rfl) ag).symm.trans hy)
       clear hy ag
       have a82 : ev 82 = .pointer (some ⟨X, 3, none⟩) := (hdep 4 82 (by kernel_rfl) (by kernel_rfl)).1 hR
       have y0 : w8.cell? ⟨X, 3, none⟩ = some (.int .i64 x.i) := (hI.cell (p := ⟨X, 3, none⟩) hXN).trans e3
       clear hdep hfree
       try dsimp only
       simp [OpRuns, execOp, evalOf, a82, y0, go_sem]
       exact ⟨hI, ⟨fun _ => rfl, fun h => absurd hR h⟩⟩
      case o6 =>
       intro ev w8 hI hdep hfree
       have ag : ev 80 = .bool pk := hdep 2 80 (by kernel_rfl) (by kernel_rfl)
       refine ⟨fun hy => ?_, fun hn d hd => ?_⟩
       rotate_left
       ·cases hd
        exact ⟨fun hr => absurd ((yield_of (by kernel_rfl) ag).trans (congrArg some hr)) hn, fun _ => rfl⟩
       have hR : pk = true := Option.some.inj ((yield_of (by kernel_rfl) ag).symm.trans hy)
       clear hy ag
       have a1 : ev 1 = .pointer (some ⟨G, 0, none⟩) := hfree 1 (by kernel_rfl)
       clear hdep hfree
       try dsimp only
       simp [OpRuns, execOp, evalOf, a1, go_sem]
       exact ⟨hI, ⟨fun _ => rfl, fun h => absurd hR h⟩⟩
      case o7 =>
       intro ev w8 hI hdep hfree
       have ag : ev 80 = .bool pk := hdep 2 80 (by kernel_rfl) (by kernel_rfl)
       refine ⟨fun hy => ?_, fun hn d hd => ?_⟩
       rotate_left
       ·cases hd
        exact ⟨fun hr => absurd ((yield_of (by kernel_rfl) ag).trans (congrArg some hr)) hn, fun _ => rfl⟩
       have hR : pk = true := Option.some.inj ((yield_of (by kernel_rfl) ag).symm.trans hy)
       clear hy ag
       have a84 : ev 84 = .pointer (some ⟨G, 3, none⟩) := (hdep 6 84 (by kernel_rfl) (by kernel_rfl)).1 hR
       have y0 : w8.cell? ⟨G, 3, none⟩ = some (.slice (some ⟨g2, o2, none⟩) d.cuts.length cc) := (hI.cell (p := ⟨G, 3, none⟩) hGN).trans d3
       clear hdep hfree
       try dsimp only
       simp [OpRuns, execOp, evalOf, a84, y0, go_sem]
       exact ⟨hI, ⟨fun _ => rfl, fun h => absurd hR h⟩⟩
      case o8 =>
       intro ev w8 hI hdep hfree
       have ag : ev 80 = .bool pk := hdep 2 80 (by kernel_rfl) (by kernel_rfl)
       refine ⟨fun hy => ?_, fun hn d hd => ?_⟩
       rotate_left
       ·cases hd
        exact ⟨fun hr => absurd ((yield_of (by kernel_rfl) ag).trans (congrArg some hr)) hn, fun _ => rfl⟩
       have hR : pk = true := Option.some.inj ((yield_of (by kernel_rfl) ag).symm.trans hy)
       clear hy ag
       have a4 : ev 4 = .int .i64 (k : Int) := hfree 4 (by kernel_rfl)
       clear hdep hfree
       try dsimp only
       simp [OpRuns, execOp, evalOf, a4, go_sem]
       exact ⟨hI, ⟨fun _ => rfl, fun h => absurd hR h⟩⟩
      case o9 =>
       intro ev w8 hI hdep hfree
       have ag : ev 80 = .bool pk := hdep 2 80 (by kernel_rfl) (by kernel_rfl)
       refine ⟨fun hy => ?_, fun hn d hd => ?_⟩
       rotate_left
       ·cases hd
        exact ⟨fun hr => absurd ((yield_of (by kernel_rfl) ag).trans (congrArg some hr)) hn, fun _ => rfl⟩
       have hR : pk = true := Option.some.inj ((yield_of (by kernel_rfl) ag).symm.trans hy)
       clear hy ag
       have m3' := m3 hR
       have a86 : ev 86 = .int .i64 (k : Int) := (hdep 8 86 (by kernel_rfl) (by kernel_rfl)).1 hR
       clear hdep hfree
       try dsimp only
       simp [OpRuns, execOp, evalOf, a86, m3', go_sem]
       exact ⟨hI, ⟨fun _ => rfl, fun h => absurd hR h⟩⟩
      case o10 =>
       intro ev w8 hI hdep hfree
       have ag : ev 80 = .bool pk := hdep 2 80 (by kernel_rfl) (by kernel_rfl)
       refine ⟨fun hy => ?_, fun hn d hd => ?_⟩
       rotate_left
       ·cases hd
        exact ⟨fun hr => absurd ((yield_of (by kernel_rfl) ag).trans (congrArg some hr)) hn, fun _ => rfl⟩
       have hR : pk = true := Option.some.inj ((yield_of (by kernel_rfl) ag).symm.trans hy)
       clear hy ag
       have a85 : ev 85 = .slice (some ⟨g2, o2, none⟩) d.cuts.length cc := (hdep 7 85 (by kernel_rfl) (by kernel_rfl)).1 hR
       have a87 : ev 87 = .int .i64 (m : Int) := (hdep 9 87 (by kernel_rfl) (by kernel_rfl)).1 hR
       clear hdep hfree
       try dsimp only
       simp [OpRuns, execOp, evalOf, a85, a87, m4, m4', go_sem]
       exact ⟨hI, ⟨fun _ => rfl, fun h => absurd hR h⟩⟩
      case o11 =>
       intro ev w8 hI hdep hfree
       have ag : ev 80 = .bool pk := hdep 2 80 (by kernel_rfl) (by kernel_rfl)
       refine ⟨fun hy => ?_, fun hn d hd => ?_⟩
       rotate_left
       ·cases hd
        exact ⟨fun hr => absurd ((yield_of (by kernel_rfl) ag).trans (congrArg some hr)) hn, fun _ => rfl⟩
       have hR : pk = true := Option.some.inj ((yield_of (by kernel_rfl) ag).symm.trans hy)
       clear hy ag
       have a88 : ev 88 = .pointer (some ⟨g2, o2 + m * 7, none⟩) := (hdep 10 88 (by kernel_rfl) (by kernel_rfl)).1 hR
       clear hdep hfree
       try dsimp only
       simp [OpRuns, execOp, evalOf, a88, go_sem]
       exact ⟨hI, ⟨fun _ => rfl, fun h => absurd hR h⟩⟩
      case o12 =>
       intro ev w8 hI hdep hfree
       have ag : ev 80 = .bool pk := hdep 2 80 (by kernel_rfl) (by kernel_rfl)
       refine ⟨fun hy => ?_, fun hn d hd => ?_⟩
       rotate_left
       ·cases hd
        exact ⟨fun hr => absurd ((yield_of (by kernel_rfl) ag).trans (congrArg some hr)) hn, fun _ => rfl⟩
       have hR : pk = true := Option.some.inj ((yield_of (by kernel_rfl) ag).symm.trans hy)
       clear hy ag
       have a89 : ev 89 = .pointer (some ⟨g2, o2 + m * 7 + 3, none⟩) := (hdep 11 89 (by kernel_rfl) (by kernel_rfl)).1 hR
       clear hdep hfree
       try dsimp only
       simp [OpRuns, execOp, evalOf, a89, go_sem]
       exact ⟨hI, ⟨fun _ => rfl, fun h => absurd hR h⟩⟩
      case o13 =>
       intro ev w8 hI hdep hfree
       have ag : ev 80 = .bool pk := hdep 2 80 (by kernel_rfl) (by kernel_rfl)
       refine ⟨fun hy => ?_, fun hn d hd => ?_⟩
       rotate_left
       ·cases hd
        exact ⟨fun hr => absurd ((yield_of (by kernel_rfl) ag).trans (congrArg some hr)) hn, fun _ => rfl⟩
       have hR : pk = true := Option.some.inj ((yield_of (by kernel_rfl) ag).symm.trans hy)
       clear hy ag
       have a90 : ev 90 = .pointer (some ⟨g2, o2 + m * 7 + 3 + 1, none⟩) := (hdep 12 90 (by kernel_rfl) (by kernel_rfl)).1 hR
       have y0 : w8.cell? ⟨g2, o2 + m * 7 + 3 + 1, none⟩ = some (.int .i64 y.o) := (hI.cell (p := ⟨g2, o2 + m * 7 + 3 + 1, none⟩) hgN).trans y4'
       clear hdep hfree
       try dsimp only
       simp [OpRuns, execOp, evalOf, a90, y0, go_sem]
       exact ⟨hI, ⟨fun _ => rfl, fun h => absurd hR h⟩⟩
      case o14 =>
       intro ev w8 hI hdep hfree
       have ag : ev 80 = .bool pk := hdep 2 80 (by kernel_rfl) (by kernel_rfl)
       refine ⟨fun hy => ?_, fun hn d hd => ?_⟩
       rotate_left
       ·cases hd
        exact ⟨fun hr => absurd ((yield_of (by kernel_rfl) ag).trans (congrArg some hr)) hn, fun _ => rfl⟩
       have hR : pk = true := Option.some.inj ((yield_of (by kernel_rfl) ag).symm.trans hy)
       clear hy ag
       have a83 : ev 83 = .int .i64 x.i := (hdep 5 83 (by kernel_rfl) (by kernel_rfl)).1 hR
       have a91 : ev 91 = .int .i64 y.o := (hdep 13 91 (by kernel_rfl) (by kernel_rfl)).1 hR
       clear hdep hfree
       try dsimp only
       simp [OpRuns, execOp, evalOf, a83, a91, go_sem]
       exact ⟨hI, ⟨fun _ => rfl, fun h => absurd hR h⟩⟩
      case o15 =>
       intro ev w8 hI hdep hfree
       have a80 : ev 80 = .bool (pk) := hdep 2 80 (by kernel_rfl) (by kernel_rfl)
       have ax : pk = true → ev 92 = .bool (decide (x.i < y.o)) := fun hc => (hdep 14 92 (by kernel_rfl) (by kernel_rfl)).1 hc
       clear hdep hfree
       obtain ⟨cc, hcc⟩ : ∃ cc, cc = pk := ⟨_, rfl⟩
       rw [← hcc] at a80
       cases cc with
       | true =>
        have ax := ax hcc.symm
        have hv : (Value.bool (decide (x.i < y.o))) = (Value.bool (pk && (decide (x.i < y.o)))) := by rw [← hcc]; simp
        clear hcc
        try dsimp only
        simp [OpRuns, execOp, evalOf, a80, ax, go_sem]
        exact ⟨hI, hv⟩
       | false =>
        clear ax
        have hv : Value.bool false = (Value.bool (pk && (decide (x.i < y.o)))) := by rw [← hcc]; simp
        clear hcc
        try dsimp only
        simp [OpRuns, execOp, evalOf, a80, go_sem]
        exact ⟨hI, hv⟩
     case hend =>
      intro a w9 hdf hsz hI hPhi hkept
      replace hdf : a.defers = [] := hdf
      replace hsz : a.tmps.size = 99 := hsz
      have x93 : a.tmps.getD 93 undef = .bool (pk && (decide (x.i < y.o))) := hPhi 15 93 (by kernel_rfl)
      have x0 : a.tmps.getD 0 undef = Value.agg #[Value.string (sB d.title), Value.int IntKind.u8 d.rate, Value.bool true, Value.slice (some { block := g2, off := o2 }) d.cuts.length cc] := hkept 0 (kept_all (by kernel_rfl))
      have x1 : a.tmps.getD 1 undef = Value.pointer (some { block := G, off := 0 }) := hkept 1 (kept_all (by kernel_rfl))
      have x2 : a.tmps.getD 2 undef = u2 := hkept 2 (kept_all (by kernel_rfl))
      have x3 : a.tmps.getD 3 undef = Value.int IntKind.i64 day := hkept 3 (kept_all (by kernel_rfl))
      have x4 : a.tmps.getD 4 undef = Value.int IntKind.i64 (↑k : Int) := hkept 4 (kept_all (by kernel_rfl))
      have x5 : a.tmps.getD 5 undef = Value.pointer (some { block := X, off := 0 }) := hkept 5 (kept_all (by kernel_rfl))
      have x6 : a.tmps.getD 6 undef = Value.int IntKind.i64 0 := hkept 6 (kept_all (by kernel_rfl))
      have x7 : a.tmps.getD 7 undef = Value.bool false := hkept 7 (kept_all (by kernel_rfl))
      have x8 : a.tmps.getD 8 undef = Value.pointer (some { block := G, off := 0 }) := hkept 8 (kept_all (by kernel_rfl))
      have x9 : a.tmps.getD 9 undef = Value.string (sB d.title) := hkept 9 (kept_all (by kernel_rfl))
      have x10 : a.tmps.getD 10 undef = Value.bool true := hkept 10 (kept_all (by kernel_rfl))
      have x11 : a.tmps.getD 11 undef = Value.bool false := hkept 11 (kept_all (by kernel_rfl))
      have x12 : a.tmps.getD 12 undef = Value.bool (decide (400 < (↑d.title.length : Int))) := hkept 12 (kept_all (by kernel_rfl))
      have x13 : a.tmps.getD 13 undef = Value.pointer (some { block := G, off := 0 }) := hkept 13 (kept_all (by kernel_rfl))
      have x14 : a.tmps.getD 14 undef = Value.string (sB d.title) := hkept 14 (kept_all (by kernel_rfl))
      have x15 : a.tmps.getD 15 undef = Value.int IntKind.i64 (↑d.title.length : Int) := hkept 15 (kept_all (by kernel_rfl))
      have x16 : a.tmps.getD 16 undef = Value.bool (decide (400 < (↑d.title.length : Int))) := hkept 16 (kept_all (by kernel_rfl))
      have x17 : a.tmps.getD 17 undef = Value.bool false := hkept 17 (kept_all (by kernel_rfl))
      have x18 : a.tmps.getD 18 undef = Value.pointer (some { block := G, off := 1 }) := hkept 18 (kept_all (by kernel_rfl))
      have x19 : a.tmps.getD 19 undef = Value.int IntKind.u8 d.rate := hkept 19 (kept_all (by kernel_rfl))
      have x20 : a.tmps.getD 20 undef = Value.bool true := hkept 20 (kept_all (by kernel_rfl))
      have x21 : a.tmps.getD 21 undef = Value.bool false := hkept 21 (kept_all (by kernel_rfl))
      have x22 : a.tmps.getD 22 undef = Value.bool false := hkept 22 (kept_all (by kernel_rfl))
      have x23 : a.tmps.getD 23 undef = Value.pointer (some { block := G, off := 2 }) := hkept 23 (kept_all (by kernel_rfl))
      have x24 : a.tmps.getD 24 undef = Value.bool true := hkept 24 (kept_all (by kernel_rfl))
      have x25 : a.tmps.getD 25 undef = Value.bool true := hkept 25 (kept_all (by kernel_rfl))
      have x26 : a.tmps.getD 26 undef = Value.pointer (some { block := G, off := 1 }) := hkept 26 (kept_all (by kernel_rfl))
      have x27 : a.tmps.getD 27 undef = Value.int IntKind.u8 d.rate := hkept 27 (kept_all (by kernel_rfl))
      have x28 : a.tmps.getD 28 undef = Value.bool true := hkept 28 (kept_all (by kernel_rfl))
      have x29 : a.tmps.getD 29 undef = Value.bool false := hkept 29 (kept_all (by kernel_rfl))
      have x30 : a.tmps.getD 30 undef = Value.bool false := hkept 30 (kept_all (by kernel_rfl))
      have x31 : a.tmps.getD 31 undef = Value.bool false := hkept 31 (kept_all (by kernel_rfl))
      have x32 : a.tmps.getD 32 undef = Value.bool (decide (64 < (↑d.cuts.length : Int))) := hkept 32 (kept_all (by kernel_rfl))
      have x33 : a.tmps.getD 33 undef = Value.pointer (some { block := G, off := 3 }) := hkept 33 (kept_all (by kernel_rfl))
      have x34 : a.tmps.getD 34 undef = Value.slice (some { block := g2, off := o2 }) d.cuts.length cc := hkept 34 (kept_all (by kernel_rfl))
      have x35 : a.tmps.getD 35 undef = Value.int IntKind.i64 (↑d.cuts.length : Int) := hkept 35 (kept_all (by kernel_rfl))
      have x36 : a.tmps.getD 36 undef = Value.bool (decide (64 < (↑d.cuts.length : Int))) := hkept 36 (kept_all (by kernel_rfl))
      have x37 : a.tmps.getD 37 undef = Value.pointer (some { block := G, off := 1 }) := hkept 37 (kept_all (by kernel_rfl))
      have x38 : a.tmps.getD 38 undef = Value.int IntKind.u8 d.rate := hkept 38 (kept_all (by kernel_rfl))
      have x39 : a.tmps.getD 39 undef = Value.pointer (some { block := G, off := 2 }) := hkept 39 (kept_all (by kernel_rfl))
      have x40 : a.tmps.getD 40 undef = Value.bool true := hkept 40 (kept_all (by kernel_rfl))
      have x41 : a.tmps.getD 41 undef = Value.int IntKind.i64 day := hkept 41 (kept_all (by kernel_rfl))
      have x42 : a.tmps.getD 42 undef = Value.pointer (some { block := G, off := 3 }) := hkept 42 (kept_all (by kernel_rfl))
      have x43 : a.tmps.getD 43 undef = Value.slice (some { block := g2, off := o2 }) d.cuts.length cc := hkept 43 (kept_all (by kernel_rfl))
      have x44 : a.tmps.getD 44 undef = Value.int IntKind.i64 (↑d.cuts.length : Int) := hkept 44 (kept_all (by kernel_rfl))
      have x45 : a.tmps.getD 45 undef = Value.int IntKind.i64 (↑k : Int) := hkept 45 (kept_all (by kernel_rfl))
      have x46 : a.tmps.getD 46 undef = Value.bool true := hkept 46 (kept_all (by kernel_rfl))
      have x47 : a.tmps.getD 47 undef = Value.int IntKind.i64 (↑k : Int) := hkept 47 (kept_all (by kernel_rfl))
      have x48 : a.tmps.getD 48 undef = Value.pointer (some { block := g2, off := o2 + k * 7 }) := hkept 48 (kept_all (by kernel_rfl))
      have x49 : a.tmps.getD 49 undef = Value.agg #[Value.int IntKind.i64 x.num, Value.string (sB x.reel), Value.int IntKind.i64 x.src, Value.int IntKind.i64 x.i, Value.int IntKind.i64 x.o, Value.int IntKind.i64 x.sn, Value.int IntKind.i64 x.sd] := hkept 49 (kept_all (by kernel_rfl))
      have x50 : a.tmps.getD 50 undef = Value.pointer (some { block := X, off := 0 }) := hkept 50 (kept_all (by kernel_rfl))
      have x51 : a.tmps.getD 51 undef = Value.int IntKind.i64 x.num := hkept 51 (kept_all (by kernel_rfl))
      have x52 : a.tmps.getD 52 undef = Value.bool false := hkept 52 (kept_all (by kernel_rfl))
      have x53 : a.tmps.getD 53 undef = Value.bool false := hkept 53 (kept_all (by kernel_rfl))
      have x54 : a.tmps.getD 54 undef = Value.pointer (some { block := X, off := 0 }) := hkept 54 (kept_all (by kernel_rfl))
      have x55 : a.tmps.getD 55 undef = Value.int IntKind.i64 x.num := hkept 55 (kept_all (by kernel_rfl))
      have x56 : a.tmps.getD 56 undef = Value.bool false := hkept 56 (kept_all (by kernel_rfl))
      have x57 : a.tmps.getD 57 undef = Value.bool false := hkept 57 (kept_all (by kernel_rfl))
      have x58 : a.tmps.getD 58 undef = u58 := hkept 58 (kept_all (by kernel_rfl))
      have x59 : a.tmps.getD 59 undef = u59 := hkept 59 (kept_all (by kernel_rfl))
      have x60 : a.tmps.getD 60 undef = u60 := hkept 60 (kept_all (by kernel_rfl))
      have x61 : a.tmps.getD 61 undef = u61 := hkept 61 (kept_all (by kernel_rfl))
      have x62 : a.tmps.getD 62 undef = u62 := hkept 62 (kept_all (by kernel_rfl))
      have x63 : a.tmps.getD 63 undef = u63 := hkept 63 (kept_all (by kernel_rfl))
      have x64 : a.tmps.getD 64 undef = u64 := hkept 64 (kept_all (by kernel_rfl))
      have x65 : a.tmps.getD 65 undef = u65 := hkept 65 (kept_all (by kernel_rfl))
      have x66 : a.tmps.getD 66 undef = u66 := hkept 66 (kept_all (by kernel_rfl))
      have x67 : a.tmps.getD 67 undef = u67 := hkept 67 (kept_all (by kernel_rfl))
      have x68 : a.tmps.getD 68 undef = u68 := hkept 68 (kept_all (by kernel_rfl))
      have x69 : a.tmps.getD 69 undef = u69 := hkept 69 (kept_all (by kernel_rfl))
      have x70 : a.tmps.getD 70 undef = u70 := hkept 70 (kept_all (by kernel_rfl))
      have x71 : a.tmps.getD 71 undef = Value.bool false := hkept 71 (kept_all (by kernel_rfl))
      have x72 : a.tmps.getD 72 undef = Value.agg #[Value.int IntKind.i64 x.num, Value.string (sB x.reel), Value.int IntKind.i64 x.src, Value.int IntKind.i64 x.i, Value.int IntKind.i64 x.o, Value.int IntKind.i64 x.sn, Value.int IntKind.i64 x.sd] := hkept 72 (kept_all (by kernel_rfl))
      have x73 : a.tmps.getD 73 undef = Value.int IntKind.i64 day := hkept 73 (kept_all (by kernel_rfl))
      have x74 : a.tmps.getD 74 undef = Value.int IntKind.i64 0 := hkept 74 (kept_all (by kernel_rfl))
      have x75 : a.tmps.getD 75 undef = Value.int IntKind.i64 0 := hkept 75 (kept_all (by kernel_rfl))
      have x76 : a.tmps.getD 76 undef = Value.bool false := hkept 76 (kept_all (by kernel_rfl))
      have x77 : a.tmps.getD 77 undef = u77 := hkept 77 (kept_all (by kernel_rfl))
      have x94 : a.tmps.getD 94 undef = u94 := hkept 94 (kept_all (by kernel_rfl))
      have x95 : a.tmps.getD 95 undef = undef := hkept 95 (kept_all (by kernel_rfl))
      have x96 : a.tmps.getD 96 undef = undef := hkept 96 (kept_all (by kernel_rfl))
      have x97 : a.tmps.getD 97 undef = undef := hkept 97 (kept_all (by kernel_rfl))
      have x98 : a.tmps.getD 98 undef = undef := hkept 98 (kept_all (by kernel_rfl))
      have ea := act_lit hsz hdf
      simp only [getDs] at ea
      rw [x93, x0, x1, x2, x3, x4, x5, x6, x7, x8, x9, x10, x11, x12, x13, x14, x15, x16, x17, x18, x19, x20, x21, x22, x23, x24, x25, x26, x27, x28, x29, x30, x31, x32, x33, x34, x35, x36, x37, x38, x39, x40, x41, x42, x43, x44, x45, x46, x47, x48, x49, x50, x51, x52, x53, x54, x55, x56, x57, x58, x59, x60, x61, x62, x63, x64, x65, x66, x67, x68, x69, x70, x71, x72, x73, x74, x75, x76, x77, x94, x95, x96, x97, x98] at ea
      rw [ea]
      clear ea x93 x0 x1 x2 x3 x4 x5 x6 x7 x8 x9 x10 x11 x12 x13 x14 x15 x16 x17 x18 x19 x20 x21 x22 x23 x24 x25 x26 x27 x28 x29 x30 x31 x32 x33 x34 x35 x36 x37 x38 x39 x40 x41 x42 x43 x44 x45 x46 x47 x48 x49 x50 x51 x52 x53 x54 x55 x56 x57 x58 x59 x60 x61 x62 x63 x64 x65 x66 x67 x68 x69 x70 x71 x72 x73 x74 x75 x76 x77 x94 x95 x96 x97 x98 hPhi hkept hdf hsz
      generalize a.tmps.getD 78 undef = u78
      generalize a.tmps.getD 79 undef = u79
      generalize a.tmps.getD 80 undef = u80
      generalize a.tmps.getD 81 undef = u81
      generalize a.tmps.getD 82 undef = u82
      generalize a.tmps.getD 83 undef = u83
      generalize a.tmps.getD 84 undef = u84
      generalize a.tmps.getD 85 undef = u85
      generalize a.tmps.getD 86 undef = u86
      generalize a.tmps.getD 87 undef = u87
      generalize a.tmps.getD 88 undef = u88
      generalize a.tmps.getD 89 undef = u89
      generalize a.tmps.getD 90 undef = u90
      generalize a.tmps.getD 91 undef = u91
      generalize a.tmps.getD 92 undef = u92
      clear a
      clear hpk1 hpk2 m4 m4' m3 e0 e3 d3 y0' y1' y2' y3' y4' y5' y6'
      have B9 := Lib.hid (show Below wr.heap.size wr w9 from B8.out.trans (hI.mono GN.out))
      have BW9 := Lib.hid (show Below w.heap.size w w9 from BW.out.trans (B9.out.mono BW.out.size))
      clear hI F8 B8 hXN hGN hgN GN
      cases hr : (pk && decide (x.i < y.o)) with
      | true =>
       have H3 := Lib.hid (show lstE d = 14 by
        have e : cutN d.cuts day k x = 14 := by rw [HN3.out, if_pos hr]
        have e2 : cutL d.cuts day 0 d.cuts = 14 := by rw [← HF.out, HD.out, e, if_neg (by decide)]
        rw [HE.out, if_pos (by rw [e2]; decide), e2])
       go_wp2_with fail
       go_ret
       exact ⟨by rw [H3.out]; rfl, BW9.out⟩
      | false =>
      have e0' : cutN d.cuts day k x = 0 := by rw [HN3.out, if_neg (by rw [hr]; decide)]
      have H3 := Lib.hid (show cutL d.cuts day (k + 1) (d.cuts.drop (k + 1)) = cutL d.cuts day 0 d.cuts by rw [← HF.out, HD.out, if_pos e0'])
      have BM := Lib.hid (show Below w4.heap.size w4 w9 from BR.out.trans (B9.out.mono BR.out.size))
      clear e0' HN3 HF HD hr
      go_wp2_with fail
      go_roundw
      case rel => exact ⟨k + 1, by have := HI.out.2; omega, by go_num, H3, BM⟩
      case measure => simp [intOf]; have := HI.out.2; omega
   ·obtain rfl : k = d.cuts.length := by omega
    have e0 : cutL d.cuts day 0 d.cuts = 0 := by rw [← HF.out, List.drop_length]; rfl
    have HE5 := Lib.hid (show lstE d = if 16 < nr then 9 else 0 by rw [HE.out, if_neg (by rw [e0]; simp)])
    have fq := FR.out.cell
    have hGr : G < wr.heap.size := FR.out.lt
    unfold Lst.cs at fq
    rw [hdd] at fq
    clear hlt HF e0 HE
    go_wp2_with fail
    refine (HRL.out wr BW.out).mono ?_
    rintro e' w9 ⟨⟨A9, c9, rfl⟩, hb⟩
    have B9 := Lib.hid (BW.out.trans (hb.mono BW.out.size))
    clear fq hb
    by_cases h9 : 16 < nr
    ·have H3 := Lib.hid (show lstE d = 9 by rw [HE5.out, if_pos h9])
     have t0 : (16 : Int) < (nr : Int) := by omega
     go_wp2_with fail
     go_ret
     exact ⟨by rw [H3.out]; rfl, B9.out⟩
    have H3 := Lib.hid (show lstE d = 0 by rw [HE5.out, if_neg h9])
    have t0 : ¬ (16 : Int) < (nr : Int) := by omega
    go_wp2_with fail
    go_ret
    exact ⟨by rw [H3.out]; rfl, B9.out⟩
 | false =>
  rw [hdd] at fq HE1 HDY HRL
  have w3e : ∃ W, W = w2' := ⟨_, rfl⟩
  obtain ⟨w3, hw3⟩ := w3e
  subst hw3
  have HE2 := Lib.hid (show lstE d = if 64 < d.cuts.length then 9 else if cutL d.cuts day 0 d.cuts ≠ 0 then cutL d.cuts day 0 d.cuts else if 16 < nr then 9 else 0 by rw [HE1.out, if_neg (by simp)])
  clear HE1 HRC
  by_cases h5 : 64 < d.cuts.length
  ·have H3 := Lib.hid (show lstE d = 9 by rw [HE2.out, if_pos h5])
   have t0 : (64 : Int) < (d.cuts.length : Int) := by omega
   clear h5
   go_wp2_with fail
   go_ret
   exact ⟨by rw [H3.out]; rfl, B3.out⟩
  have HE := Lib.hid (show lstE d = if cutL d.cuts day 0 d.cuts ≠ 0 then cutL d.cuts day 0 d.cuts else if 16 < nr then 9 else 0 by rw [HE2.out, if_neg h5])
  have t0 : ¬ (64 : Int) < (d.cuts.length : Int) := by omega
  clear HE2
  go_wp2_with fail
  clear t0
  refine (HDY.out w3).mono ?_
  rintro e' w4 ⟨rfl, hb⟩
  have B4 := Lib.hid (B3.out.trans (hb.mono B3.out.size))
  have F4 := Lib.hid (F3.out.ext hb)
  clear hb F3 B3 HDY fq hG3
  have fq := F4.out.cell
  have hG4 := F4.out.lt
  unfold Lst.cs at fq
  rw [hdd] at fq
  go_wp2_with fail
  clear fq
  go_loopw [45] (fun i wr => ∃ k : Nat, k ≤ d.cuts.length ∧ i = .int .i64 k ∧ Hid (cutL d.cuts day k (d.cuts.drop k) = cutL d.cuts day 0 d.cuts) ∧ Hid (Below w4.heap.size w4 wr)) (fun i _ => d.cuts.length - (intOf i).toNat)
  case atStart => exact ⟨0, Nat.zero_le _, rfl, Lib.hid rfl, Lib.hid (Below.refl _ _)⟩
  case round =>
   obtain ⟨k, hk, rfl, HF, BR⟩ := hrel
   have BW := Lib.hid (show Below w.heap.size w wr from B4.out.trans (BR.out.mono B4.out.size))
   have FR := Lib.hid (F4.out.below BR.out hG4)
   by_cases hlt : k < d.cuts.length
   ·have hlt2 : (k : Int) < (d.cuts.length : Int) := by omega
    obtain ⟨x, hx⟩ : ∃ x, d.cuts[k]? = some x := ⟨_, List.getElem?_eq_getElem hlt⟩
    have HR := Lib.hid (HDO.out.ext (Flat.stays _) BW.out)
    have HD := Lib.hid (cutL_drop (day := day) hx)
    obtain ⟨g, o, rfl, p0, p1, p2, p3, p4, p5, p6⟩ := CutsAt.get HR.out hx
    obtain ⟨m, y, hmk, hy⟩ : ∃ m y, (0 < k → m + 1 = k) ∧ d.cuts[m]? = some y := by
     by_cases h0 : 0 < k
     ·exact ⟨k - 1, _, fun _ => by omega, List.getElem?_eq_getElem (by omega)⟩
     ·exact ⟨k, _, fun h => absurd h h0, hx⟩
    have HY0 := Lib.hid hy
    have hml : m < d.cuts.length := (List.getElem?_eq_some_iff.1 hy).1
    have HOX := Lib.hid (HO.out.cuts x (List.mem_of_getElem? hx))
    have hgr : g < wr.heap.size := World.block_lt_of_cell? wr _ p0
    obtain ⟨pk, hpk⟩ : ∃ b, b = decide (0 < k) := ⟨_, rfl⟩
    obtain ⟨q, hq⟩ : ∃ q, q = cutE x day := ⟨_, rfl⟩
    have HN := Lib.hid (show cutN d.cuts day k x = if x.num < 1 ∨ 999 < x.num then 2 else if (pk && decide (x.num ≤ y.num)) = true then 8 else if q ≠ 0 then q else if (pk && decide (x.i < y.o)) = true then 14 else 0 by
     have e : (match prv d.cuts k with | some y => decide (x.num ≤ y.num) | none => false) = (pk && decide (x.num ≤ y.num)) ∧ (match prv d.cuts k with | some y => decide (x.i < y.o) | none => false) = (pk && decide (x.i < y.o)) := by
      by_cases h0 : 0 < k
      ·have e : prv d.cuts k = some y := by
        unfold prv
        rw [if_neg (by omega), show k - 1 = m by have := hmk h0; omega]
        exact hy
       rw [e, hpk, show decide (0 < k) = true by simpa using h0, Bool.true_and, Bool.true_and]
       exact ⟨rfl, rfl⟩
      ·have e : prv d.cuts k = none := by
        unfold prv
        rw [if_pos (by omega)]
       rw [e, hpk, show decide (0 < k) = false by simpa using h0, Bool.false_and, Bool.false_and]
       exact ⟨rfl, rfl⟩
     unfold cutN
     rw [e.1, e.2, ← hq])
    have HP := Lib.hid (And.intro hpk (And.intro hmk hml))
    have HCK := Lib.hid (show ∀ W, Calls Tryz.prog 67 #[.agg #[.int .i64 x.num, .string (sB x.reel), .int .i64 x.src, .int .i64 x.i, .int .i64 x.o, .int .i64 x.sn, .int .i64 x.sd], .int .i64 day] W fun e' w' => e' = .returned (.int .i64 q) ∧ Below W.heap.size W w' from fun W => by
     rw [hq]
     exact checkCut_any x day W HOX.out HDAY.out)
    have HI := Lib.hid (And.intro hk hlt)
    clear hx hy hpk hq hmk hml hk
    have fq := FR.out.cell
    have hGr : G < wr.heap.size := FR.out.lt
    unfold Lst.cs at fq
    rw [hdd] at fq
    by_cases hn1 : x.num < 1
    ·have HN0 := Lib.hid (show cutN d.cuts day k x = 2 by rw [HN.out, if_pos (.inl hn1)])
     have H3 := Lib.hid (show lstE d = 2 by
      have e : cutN d.cuts day k x = 2 := by rw [HN0.out]
      have e2 : cutL d.cuts day 0 d.cuts = 2 := by rw [← HF.out, HD.out, e, if_neg (by decide)]
      rw [HE.out, if_pos (by rw [e2]; decide), e2])
     go_wp2_with fail
     go_ret
     exact ⟨by rw [H3.out]; rfl, ((BW.out.alloc BW.out.size _))⟩
    by_cases hn2 : 999 < x.num
    ·have HN0 := Lib.hid (show cutN d.cuts day k x = 2 by rw [HN.out, if_pos (.inr hn2)])
     have H3 := Lib.hid (show lstE d = 2 by
      have e : cutN d.cuts day k x = 2 := by rw [HN0.out]
      have e2 : cutL d.cuts day 0 d.cuts = 2 := by rw [← HF.out, HD.out, e, if_neg (by decide)]
      rw [HE.out, if_pos (by rw [e2]; decide), e2])
     go_wp2_with fail
     go_ret
     exact ⟨by rw [H3.out]; rfl, ((BW.out.alloc BW.out.size _))⟩
    have HN1 := Lib.hid (show cutN d.cuts day k x = if (pk && decide (x.num ≤ y.num)) = true then 8 else if q ≠ 0 then q else if (pk && decide (x.i < y.o)) = true then 14 else 0 by rw [HN.out, if_neg (by omega)])
    clear HN
    go_wp2_with fail
    clear fq hn1 hn2
    generalize hw5 : World.alloc _ _ = w5
    obtain ⟨X, hX⟩ : ∃ X, X = wr.heap.size := ⟨_, rfl⟩
    rw [← hX]
    have F6 := Lib.hid (show Held w5 X x.cs by subst hw5; exact Held.new hX)
    have B6 := Lib.hid (show Below wr.heap.size wr w5 by subst hw5; exact Below.more' _ _)
    have G6 := Lib.hid (FR.out.ext B6.out)
    clear hw5 hX p0 p1 p2 p3 p4 p5 p6
    obtain ⟨N, hN⟩ : ∃ N, N = w5.heap.size := ⟨_, rfl⟩
    have hXN : X < N := by have := F6.out.lt; omega
    have hGN : G < N := by have := G6.out.lt; omega
    obtain ⟨g2, o2, eg, y0', y1', y2', y3', y4', y5', y6'⟩ := CutsAt.get (HR.out.ext (Flat.stays _) B6.out) HY0.out
    obtain ⟨rfl, rfl⟩ : g2 = g ∧ o2 = o := by
     injection eg with e
     injection e with e1 e2
     exact ⟨e1.symm, e2.symm⟩
    clear eg
    have hgN : g2 < N := by have h : g2 < w5.heap.size := World.block_lt_of_cell? w5 _ y0'; omega
    have GN := Lib.hid (show wr.heap.size ≤ N by have := B6.out.size; omega)
    clear hN
    have e0 : w5.cell? ⟨X, 0, none⟩ = some (.int .i64 x.num) := F6.out.cell 0
    have e3 : w5.cell? ⟨X, 3, none⟩ = some (.int .i64 x.i) := F6.out.cell 3
    have d3 : w5.cell? ⟨G, 3, none⟩ = some (.slice (some ⟨g2, o2, none⟩) d.cuts.length cc) := G6.out.cell 3
    have hpk1 : decide ((0 : Int) < (k : Int)) = pk := by rw [HP.out.1]; simp
    have hpk2 : decide (0 < k) = pk := HP.out.1.symm
    have m4 : (m : Int) < (d.cuts.length : Int) := by have := HP.out.2.2; omega
    have m4' : m < d.cuts.length := HP.out.2.2
    have m3 : pk = true → IntKind.i64.wrap ((k : Int) - 1) = (m : Int) := fun h => by
     have := HP.out.2.1 (of_decide_eq_true (HP.out.1.symm.trans h))
     rw [IntKind.wrap_i64]
     omega
    refine wp_region_spec (by kernel_rfl) (fun w' => Below N w5 w') (PhiL2 X G g2 o2 m k d.cuts.length cc x y pk) 99 rfl (by kernel_rfl) (Below.refl _ _).drew ?hops ?hend
    case hops =>
     refine ⟨?o0, ?o1, ?o2, ?o3, ?o4, ?o5, ?o6, ?o7, ?o8, ?o9, ?o10, ?o11, ?o12, ?o13, trivial⟩
     case o0 =>
      intro ev w8 hI hdep hfree
      have a4 : ev 4 = .int .i64 (k : Int) := hfree 4 (by kernel_rfl)
      clear hdep hfree
      try dsimp only
      simp [OpRuns, execOp, evalOf, a4, go_sem]
      exact ⟨hI, rfl⟩
     case o1 =>
      intro ev w8 hI hdep hfree
      have a58 : ev 58 = .int .i64 (k : Int) := hdep 0 58 (by kernel_rfl) (by kernel_rfl)
      clear hdep hfree
      try dsimp only
      simp [OpRuns, execOp, evalOf, a58, go_sem]
      exact ⟨hI, congrArg Value.bool hpk2⟩
     case o2 =>
      intro ev w8 hI hdep hfree
      have a59 : ev 59 = .bool (pk) := hdep 1 59 (by kernel_rfl) (by kernel_rfl)
      clear hdep hfree
      try dsimp only
      simp [OpRuns, execOp, evalOf, a59, go_sem]
      exact ⟨hI, rfl⟩
     case o3 =>
      intro ev w8 hI hdep hfree
      have ag : ev 60 = .bool pk := hdep 2 60 (by kernel_rfl) (by kernel_rfl)
      refine ⟨fun hy => ?_, fun hn d hd => ?_⟩
      rotate_left
      ·cases hd
       exact ⟨fun hr => absurd ((yield_of (by kernel_rfl) ag).trans (congrArg some hr)) hn, fun _ => rfl⟩
      have hR : pk = true := Option.some.inj ((yield_of (by kernel_rfl) ag).symm.trans hy)
      clear hy ag
      have a5 : ev 5 = .pointer (some ⟨X, 0, none⟩) := hfree 5 (by kernel_rfl)
      clear hdep hfree
      try dsimp only
      simp [OpRuns, execOp, evalOf, a5, go_sem]
      exact ⟨hI, ⟨fun _ => rfl, fun h => absurd hR h⟩⟩
     case o4 =>
      intro ev w8 hI hdep hfree
      have ag : ev 60 = .bool pk := hdep 2 60 (by kernel_rfl) (by kernel_rfl)
      refine ⟨fun hy => ?_, fun hn d hd => ?_⟩
      rotate_left
      ·cases hd
       exact ⟨fun hr => absurd ((yield_of (by kernel_rfl) ag).trans (congrArg some hr)) hn, fun _ => rfl⟩
      have hR : pk = true := Option.some.inj ((yield_of (by kernel_rfl) ag).symm.trans hy)
      clear hy ag
      have a61 : ev 61 = .pointer (some ⟨X, 0, none⟩) := (hdep 3 61 (by kernel_rfl) (by kernel_rfl)).1 hR
      have y0 : w8.cell? ⟨X, 0, none⟩ = some (.int .i64 x.num) := (hI.cell (p := ⟨X, 0, none⟩) hXN).trans e0
      clear hdep hfree
      try dsimp only
      simp [OpRuns, execOp, evalOf, a61, y0, go_sem]
      exact ⟨hI, ⟨fun _ => rfl, fun h => absurd hR h⟩⟩
     case o5 =>
      intro ev w8 hI hdep hfree
      have ag : ev 60 = .bool pk := hdep 2 60 (by kernel_rfl) (by kernel_rfl)
      refine ⟨fun hy => ?_, fun hn d hd => ?_⟩
      rotate_left
      ·cases hd
       exact ⟨fun hr => absurd ((yield_of (by kernel_rfl) ag).trans (congrArg some hr)) hn, fun _ => rfl⟩
      have hR : pk = true := Option.some.inj ((yield_of (by kernel_rfl) ag).symm.trans hy)
      clear hy ag
      have a1 : ev 1 = .pointer (some ⟨G, 0, none⟩) := hfree 1 (by kernel_rfl)
      clear hdep hfree
      try dsimp only
      simp [OpRuns, execOp, evalOf, a1, go_sem]
      exact ⟨hI, ⟨fun _ => rfl, fun h => absurd hR h⟩⟩
     case o6 =>
      intro ev w8 hI hdep hfree
      have ag : ev 60 = .bool pk := hdep 2 60 (by kernel_rfl) (by kernel_rfl)
      refine ⟨fun hy => ?_, fun hn d hd => ?_⟩
      rotate_left
      ·cases hd
       exact ⟨fun hr => absurd ((yield_of (by kernel_rfl) ag).trans (congrArg some hr)) hn, fun _ => rfl⟩
      have hR : pk = true := Option.some.inj ((yield_of (by kernel_rfl) ag).symm.trans hy)
      clear hy ag
      have a63 : ev 63 = .pointer (some ⟨G, 3, none⟩) := (hdep 5 63 (by kernel_rfl) (by kernel_rfl)).1 hR
      have y0 : w8.cell? ⟨G, 3, none⟩ = some (.slice (some ⟨g2, o2, none⟩) d.cuts.length cc) := (hI.cell (p := ⟨G, 3, none⟩) hGN).trans d3
      clear hdep hfree
      try dsimp only
      simp [OpRuns, execOp, evalOf, a63, y0, go_sem]
      exact ⟨hI, ⟨fun _ => rfl, fun h => absurd hR h⟩⟩
     case o7 =>
      intro ev w8 hI hdep hfree
      have ag : ev 60 = .bool pk := hdep 2 60 (by kernel_rfl) (by kernel_rfl)
      refine ⟨fun hy => ?_, fun hn d hd => ?_⟩
      rotate_left
      ·cases hd
       exact ⟨fun hr => absurd ((yield_of (by kernel_rfl) ag).trans (congrArg some hr)) hn, fun _ => rfl⟩
      have hR : pk = true := Option.some.inj ((yield_of (by kernel_rfl) ag).symm.trans hy)
      clear hy ag
      have a4 : ev 4 = .int .i64 (k : Int) := hfree 4 (by kernel_rfl)
      clear hdep hfree
      try dsimp only
      simp [OpRuns, execOp, evalOf, a4, go_sem]
      exact ⟨hI, ⟨fun _ => rfl, fun h => absurd hR h⟩⟩
     case o8 =>
      intro ev w8 hI hdep hfree
      have ag : ev 60 = .bool pk := hdep 2 60 (by kernel_rfl) (by kernel_rfl)
      refine ⟨fun hy => ?_, fun hn d hd => ?_⟩
      rotate_left
      ·cases hd
       exact ⟨fun hr => absurd ((yield_of (by kernel_rfl) ag).trans (congrArg some hr)) hn, fun _ => rfl⟩
      have hR : pk = true := Option.some.inj ((yield_of (by kernel_rfl) ag).symm.trans hy)
      clear hy ag
      have m3' := m3 hR
      have a65 : ev 65 = .int .i64 (k : Int) := (hdep 7 65 (by kernel_rfl) (by kernel_rfl)).1 hR
      clear hdep hfree
      try dsimp only
      simp [OpRuns, execOp, evalOf, a65, m3', go_sem]
      exact ⟨hI, ⟨fun _ => rfl, fun h => absurd hR h⟩⟩
     case o9 =>
      intro ev w8 hI hdep hfree
      have ag : ev 60 = .bool pk := hdep 2 60 (by kernel_rfl) (by kernel_rfl)
      refine ⟨fun hy => ?_, fun hn d hd => ?_⟩
      rotate_left
      ·cases hd
       exact ⟨fun hr => absurd ((yield_of (by kernel_rfl) ag).trans (congrArg some hr)) hn, fun _ => rfl⟩
      have hR : pk = true := Option.some.inj ((yield_of (by kernel_rfl) ag).symm.trans hy)
      clear hy ag
      have a64 : ev 64 = .slice (some ⟨g2, o2, none⟩) d.cuts.length cc := (hdep 6 64 (by kernel_rfl) (by kernel_rfl)).1 hR
      have a66 : ev 66 = .int .i64 (m : Int) := (hdep 8 66 (by kernel_rfl) (by kernel_rfl)).1 hR
      clear hdep hfree
      try dsimp only
      simp [OpRuns, execOp, evalOf, a64, a66, m4, m4', go_sem]
      exact ⟨hI, ⟨fun _ => rfl, fun h => absurd hR h⟩⟩
     case o10 =>
      intro ev w8 hI hdep hfree
      have ag : ev 60 = .bool pk := hdep 2 60 (by kernel_rfl) (by kernel_rfl)
      refine ⟨fun hy => ?_, fun hn d hd => ?_⟩
      rotate_left
      ·cases hd
       exact ⟨fun hr => absurd ((yield_of (by kernel_rfl) ag).trans (congrArg some hr)) hn, fun _ => rfl⟩
      have hR : pk = true := Option.some.inj ((yield_of (by kernel_rfl) ag).symm.trans hy)
      clear hy ag
      have a67 : ev 67 = .pointer (some ⟨g2, o2 + m * 7, none⟩) := (hdep 9 67 (by kernel_rfl) (by kernel_rfl)).1 hR
      clear hdep hfree
      try dsimp only
      simp [OpRuns, execOp, evalOf, a67, go_sem]
      exact ⟨hI, ⟨fun _ => rfl, fun h => absurd hR h⟩⟩
     case o11 =>
      intro ev w8 hI hdep hfree
      have ag : ev 60 = .bool pk := hdep 2 60 (by kernel_rfl) (by kernel_rfl)
      refine ⟨fun hy => ?_, fun hn d hd => ?_⟩
      rotate_left
      ·cases hd
       exact ⟨fun hr => absurd ((yield_of (by kernel_rfl) ag).trans (congrArg some hr)) hn, fun _ => rfl⟩
      have hR : pk = true := Option.some.inj ((yield_of (by kernel_rfl) ag).symm.trans hy)
      clear hy ag
      have a68 : ev 68 = .pointer (some ⟨g2, o2 + m * 7, none⟩) := (hdep 10 68 (by kernel_rfl) (by kernel_rfl)).1 hR
      have y0 : w8.cell? ⟨g2, o2 + m * 7, none⟩ = some (.int .i64 y.num) := (hI.cell (p := ⟨g2, o2 + m * 7, none⟩) hgN).trans y0'
      clear hdep hfree
      try dsimp only
      simp [OpRuns, execOp, evalOf, a68, y0, go_sem]
      exact ⟨hI, ⟨fun _ => rfl, fun h => absurd hR h⟩⟩
     case o12 =>
      intro ev w8 hI hdep hfree
      have ag : ev 60 = .bool pk := hdep 2 60 (by kernel_rfl) (by kernel_rfl)
      refine ⟨fun hy => ?_, fun hn d hd => ?_⟩
      rotate_left
      ·cases hd
       exact ⟨fun hr => absurd ((yield_of (by kernel_rfl) ag).trans (congrArg some hr)) hn, fun _ => rfl⟩
      have hR : pk = true := Option.some.inj ((yield_of (by kernel_rfl) ag).symm.trans hy)
      clear hy ag
      have a62 : ev 62 = .int .i64 x.num := (hdep 4 62 (by kernel_rfl) (by kernel_rfl)).1 hR
      have a69 : ev 69 = .int .i64 y.num := (hdep 11 69 (by kernel_rfl) (by kernel_rfl)).1 hR
      clear hdep hfree
      try dsimp only
      simp [OpRuns, execOp, evalOf, a62, a69, go_sem]
      exact ⟨hI, ⟨fun _ => rfl, fun h => absurd hR h⟩⟩
     case o13 =>
      intro ev w8 hI hdep hfree
      have a60 : ev 60 = .bool (pk) := hdep 2 60 (by kernel_rfl) (by kernel_rfl)
      have ax : pk = true → ev 70 = .bool (decide (x.num ≤ y.num)) := fun hc => (hdep 12 70 (by kernel_rfl) (by kernel_rfl)).1 hc
      clear hdep hfree
      obtain ⟨cc, hcc⟩ : ∃ cc, cc = pk := ⟨_, rfl⟩
      rw [← hcc] at a60
      cases cc with
      | true =>
       have ax := ax hcc.symm
       have hv : (Value.bool (decide (x.num ≤ y.num))) = (Value.bool (pk && (decide (x.num ≤ y.num)))) := by rw [← hcc]; simp
       clear hcc
       try dsimp only
       simp [OpRuns, execOp, evalOf, a60, ax, go_sem]
       exact ⟨hI, hv⟩
      | false =>
       clear ax
       have hv : Value.bool false = (Value.bool (pk && (decide (x.num ≤ y.num)))) := by rw [← hcc]; simp
       clear hcc
       try dsimp only
       simp [OpRuns, execOp, evalOf, a60, go_sem]
       exact ⟨hI, hv⟩
    case hend =>
     intro a w7 hdf hsz hI hPhi hkept
     replace hdf : a.defers = [] := hdf
     replace hsz : a.tmps.size = 99 := hsz
     have x71 : a.tmps.getD 71 undef = .bool (pk && (decide (x.num ≤ y.num))) := hPhi 13 71 (by kernel_rfl)
     have x0 : a.tmps.getD 0 undef = Value.agg #[Value.string (sB d.title), Value.int IntKind.u8 d.rate, Value.bool false, Value.slice (some { block := g2, off := o2 }) d.cuts.length cc] := hkept 0 (kept_all (by kernel_rfl))
     have x1 : a.tmps.getD 1 undef = Value.pointer (some { block := G, off := 0 }) := hkept 1 (kept_all (by kernel_rfl))
     have x2 : a.tmps.getD 2 undef = u2 := hkept 2 (kept_all (by kernel_rfl))
     have x3 : a.tmps.getD 3 undef = Value.int IntKind.i64 day := hkept 3 (kept_all (by kernel_rfl))
     have x4 : a.tmps.getD 4 undef = Value.int IntKind.i64 (↑k : Int) := hkept 4 (kept_all (by kernel_rfl))
     have x5 : a.tmps.getD 5 undef = Value.pointer (some { block := X, off := 0 }) := hkept 5 (kept_all (by kernel_rfl))
     have x6 : a.tmps.getD 6 undef = u6 := hkept 6 (kept_all (by kernel_rfl))
     have x7 : a.tmps.getD 7 undef = Value.bool false := hkept 7 (kept_all (by kernel_rfl))
     have x8 : a.tmps.getD 8 undef = Value.pointer (some { block := G, off := 0 }) := hkept 8 (kept_all (by kernel_rfl))
     have x9 : a.tmps.getD 9 undef = Value.string (sB d.title) := hkept 9 (kept_all (by kernel_rfl))
     have x10 : a.tmps.getD 10 undef = Value.bool true := hkept 10 (kept_all (by kernel_rfl))
     have x11 : a.tmps.getD 11 undef = Value.bool false := hkept 11 (kept_all (by kernel_rfl))
     have x12 : a.tmps.getD 12 undef = Value.bool (decide (400 < (↑d.title.length : Int))) := hkept 12 (kept_all (by kernel_rfl))
     have x13 : a.tmps.getD 13 undef = Value.pointer (some { block := G, off := 0 }) := hkept 13 (kept_all (by kernel_rfl))
     have x14 : a.tmps.getD 14 undef = Value.string (sB d.title) := hkept 14 (kept_all (by kernel_rfl))
     have x15 : a.tmps.getD 15 undef = Value.int IntKind.i64 (↑d.title.length : Int) := hkept 15 (kept_all (by kernel_rfl))
     have x16 : a.tmps.getD 16 undef = Value.bool (decide (400 < (↑d.title.length : Int))) := hkept 16 (kept_all (by kernel_rfl))
     have x17 : a.tmps.getD 17 undef = Value.bool false := hkept 17 (kept_all (by kernel_rfl))
     have x18 : a.tmps.getD 18 undef = Value.pointer (some { block := G, off := 1 }) := hkept 18 (kept_all (by kernel_rfl))
     have x19 : a.tmps.getD 19 undef = Value.int IntKind.u8 d.rate := hkept 19 (kept_all (by kernel_rfl))
     have x20 : a.tmps.getD 20 undef = Value.bool true := hkept 20 (kept_all (by kernel_rfl))
     have x21 : a.tmps.getD 21 undef = Value.bool false := hkept 21 (kept_all (by kernel_rfl))
     have x22 : a.tmps.getD 22 undef = Value.bool false := hkept 22 (kept_all (by kernel_rfl))
     have x23 : a.tmps.getD 23 undef = Value.pointer (some { block := G, off := 2 }) := hkept 23 (kept_all (by kernel_rfl))
     have x24 : a.tmps.getD 24 undef = Value.bool false := hkept 24 (kept_all (by kernel_rfl))
     have x25 : a.tmps.getD 25 undef = Value.bool false := hkept 25 (kept_all (by kernel_rfl))
     have x26 : a.tmps.getD 26 undef = undef := hkept 26 (kept_all (by kernel_rfl))
     have x27 : a.tmps.getD 27 undef = undef := hkept 27 (kept_all (by kernel_rfl))
     have x28 : a.tmps.getD 28 undef = undef := hkept 28 (kept_all (by kernel_rfl))
     have x29 : a.tmps.getD 29 undef = undef := hkept 29 (kept_all (by kernel_rfl))
     have x30 : a.tmps.getD 30 undef = Value.bool false := hkept 30 (kept_all (by kernel_rfl))
     have x31 : a.tmps.getD 31 undef = Value.bool false := hkept 31 (kept_all (by kernel_rfl))
     have x32 : a.tmps.getD 32 undef = Value.bool (decide (64 < (↑d.cuts.length : Int))) := hkept 32 (kept_all (by kernel_rfl))
     have x33 : a.tmps.getD 33 undef = Value.pointer (some { block := G, off := 3 }) := hkept 33 (kept_all (by kernel_rfl))
     have x34 : a.tmps.getD 34 undef = Value.slice (some { block := g2, off := o2 }) d.cuts.length cc := hkept 34 (kept_all (by kernel_rfl))
     have x35 : a.tmps.getD 35 undef = Value.int IntKind.i64 (↑d.cuts.length : Int) := hkept 35 (kept_all (by kernel_rfl))
     have x36 : a.tmps.getD 36 undef = Value.bool (decide (64 < (↑d.cuts.length : Int))) := hkept 36 (kept_all (by kernel_rfl))
     have x37 : a.tmps.getD 37 undef = Value.pointer (some { block := G, off := 1 }) := hkept 37 (kept_all (by kernel_rfl))
     have x38 : a.tmps.getD 38 undef = Value.int IntKind.u8 d.rate := hkept 38 (kept_all (by kernel_rfl))
     have x39 : a.tmps.getD 39 undef = Value.pointer (some { block := G, off := 2 }) := hkept 39 (kept_all (by kernel_rfl))
     have x40 : a.tmps.getD 40 undef = Value.bool false := hkept 40 (kept_all (by kernel_rfl))
     have x41 : a.tmps.getD 41 undef = Value.int IntKind.i64 day := hkept 41 (kept_all (by kernel_rfl))
     have x42 : a.tmps.getD 42 undef = Value.pointer (some { block := G, off := 3 }) := hkept 42 (kept_all (by kernel_rfl))
     have x43 : a.tmps.getD 43 undef = Value.slice (some { block := g2, off := o2 }) d.cuts.length cc := hkept 43 (kept_all (by kernel_rfl))
     have x44 : a.tmps.getD 44 undef = Value.int IntKind.i64 (↑d.cuts.length : Int) := hkept 44 (kept_all (by kernel_rfl))
     have x45 : a.tmps.getD 45 undef = Value.int IntKind.i64 (↑k : Int) := hkept 45 (kept_all (by kernel_rfl))
     have x46 : a.tmps.getD 46 undef = Value.bool true := hkept 46 (kept_all (by kernel_rfl))
     have x47 : a.tmps.getD 47 undef = Value.int IntKind.i64 (↑k : Int) := hkept 47 (kept_all (by kernel_rfl))
     have x48 : a.tmps.getD 48 undef = Value.pointer (some { block := g2, off := o2 + k * 7 }) := hkept 48 (kept_all (by kernel_rfl))
     have x49 : a.tmps.getD 49 undef = Value.agg #[Value.int IntKind.i64 x.num, Value.string (sB x.reel), Value.int IntKind.i64 x.src, Value.int IntKind.i64 x.i, Value.int IntKind.i64 x.o, Value.int IntKind.i64 x.sn, Value.int IntKind.i64 x.sd] := hkept 49 (kept_all (by kernel_rfl))
     have x50 : a.tmps.getD 50 undef = Value.pointer (some { block := X, off := 0 }) := hkept 50 (kept_all (by kernel_rfl))
     have x51 : a.tmps.getD 51 undef = Value.int IntKind.i64 x.num := hkept 51 (kept_all (by kernel_rfl))
     have x52 : a.tmps.getD 52 undef = Value.bool false := hkept 52 (kept_all (by kernel_rfl))
     have x53 : a.tmps.getD 53 undef = Value.bool false := hkept 53 (kept_all (by kernel_rfl))
     have x54 : a.tmps.getD 54 undef = Value.pointer (some { block := X, off := 0 }) := hkept 54 (kept_all (by kernel_rfl))
     have x55 : a.tmps.getD 55 undef = Value.int IntKind.i64 x.num := hkept 55 (kept_all (by kernel_rfl))
     have x56 : a.tmps.getD 56 undef = Value.bool false := hkept 56 (kept_all (by kernel_rfl))
     have x57 : a.tmps.getD 57 undef = Value.bool false := hkept 57 (kept_all (by kernel_rfl))
     have x72 : a.tmps.getD 72 undef = u72 := hkept 72 (kept_all (by kernel_rfl))
     have x73 : a.tmps.getD 73 undef = u73 := hkept 73 (kept_all (by kernel_rfl))
     have x74 : a.tmps.getD 74 undef = u74 := hkept 74 (kept_all (by kernel_rfl))
     have x75 : a.tmps.getD 75 undef = u75 := hkept 75 (kept_all (by kernel_rfl))
     have x76 : a.tmps.getD 76 undef = u76 := hkept 76 (kept_all (by kernel_rfl))
     have x77 : a.tmps.getD 77 undef = u77 := hkept 77 (kept_all (by kernel_rfl))
     have x78 : a.tmps.getD 78 undef = u78 := hkept 78 (kept_all (by kernel_rfl))
     have x79 : a.tmps.getD 79 undef = u79 := hkept 79 (kept_all (by kernel_rfl))
     have x80 : a.tmps.getD 80 undef = u80 := hkept 80 (kept_all (by kernel_rfl))
     have x81 : a.tmps.getD 81 undef = u81 := hkept 81 (kept_all (by kernel_rfl))
     have x82 : a.tmps.getD 82 undef = u82 := hkept 82 (kept_all (by kernel_rfl))
     have x83 : a.tmps.getD 83 undef = u83 := hkept 83 (kept_all (by kernel_rfl))
     have x84 : a.tmps.getD 84 undef = u84 := hkept 84 (kept_all (by kernel_rfl))
     have x85 : a.tmps.getD 85 undef = u85 := hkept 85 (kept_all (by kernel_rfl))
     have x86 : a.tmps.getD 86 undef = u86 := hkept 86 (kept_all (by kernel_rfl))
     have x87 : a.tmps.getD 87 undef = u87 := hkept 87 (kept_all (by kernel_rfl))
     have x88 : a.tmps.getD 88 undef = u88 := hkept 88 (kept_all (by kernel_rfl))
     have x89 : a.tmps.getD 89 undef = u89 := hkept 89 (kept_all (by kernel_rfl))
     have x90 : a.tmps.getD 90 undef = u90 := hkept 90 (kept_all (by kernel_rfl))
     have x91 : a.tmps.getD 91 undef = u91 := hkept 91 (kept_all (by kernel_rfl))
     have x92 : a.tmps.getD 92 undef = u92 := hkept 92 (kept_all (by kernel_rfl))
     have x93 : a.tmps.getD 93 undef = u93 := hkept 93 (kept_all (by kernel_rfl))
     have x94 : a.tmps.getD 94 undef = u94 := hkept 94 (kept_all (by kernel_rfl))
     have x95 : a.tmps.getD 95 undef = undef := hkept 95 (kept_all (by kernel_rfl))
     have x96 : a.tmps.getD 96 undef = undef := hkept 96 (kept_all (by kernel_rfl))
     have x97 : a.tmps.getD 97 undef = undef := hkept 97 (kept_all (by kernel_rfl))
     have x98 : a.tmps.getD 98 undef = undef := hkept 98 (kept_all (by kernel_rfl))
     have ea := act_lit hsz hdf
     simp only [getDs] at ea
     rw [x71, x0, x1, x2, x3, x4, x5, x6, x7, x8, x9, x10, x11, x12, x13, x14, x15, x16, x17, x18, x19, x20, x21, x22, x23, x24, x25, x26, x27, x28, x29, x30, x31, x32, x33, x34, x35, x36, x37, x38, x39, x40, x41, x42, x43, x44, x45, x46, x47, x48, x49, x50, x51, x52, x53, x54, x55, x56, x57, x72, x73, x74, x75, x76, x77, x78, x79, x80, x81, x82, x83, x84, x85, x86, x87, x88, x89, x90, x91, x92, x93, x94, x95, x96, x97, x98] at ea
     rw [ea]
     clear ea x71 x0 x1 x2 x3 x4 x5 x6 x7 x8 x9 x10 x11 x12 x13 x14 x15 x16 x17 x18 x19 x20 x21 x22 x23 x24 x25 x26 x27 x28 x29 x30 x31 x32 x33 x34 x35 x36 x37 x38 x39 x40 x41 x42 x43 x44 x45 x46 x47 x48 x49 x50 x51 x52 x53 x54 x55 x56 x57 x72 x73 x74 x75 x76 x77 x78 x79 x80 x81 x82 x83 x84 x85 x86 x87 x88 x89 x90 x91 x92 x93 x94 x95 x96 x97 x98 hPhi hkept hdf hsz
     generalize a.tmps.getD 58 undef = u58
     generalize a.tmps.getD 59 undef = u59
     generalize a.tmps.getD 60 undef = u60
     generalize a.tmps.getD 61 undef = u61
     generalize a.tmps.getD 62 undef = u62
     generalize a.tmps.getD 63 undef = u63
     generalize a.tmps.getD 64 undef = u64
     generalize a.tmps.getD 65 undef = u65
     generalize a.tmps.getD 66 undef = u66
     generalize a.tmps.getD 67 undef = u67
     generalize a.tmps.getD 68 undef = u68
     generalize a.tmps.getD 69 undef = u69
     generalize a.tmps.getD 70 undef = u70
     clear a
     clear hpk1 hpk2 m4 m4' m3 e0 e3 d3 y0' y1' y2' y3' y4' y5' y6'
     have B7 := Lib.hid (show Below wr.heap.size wr w7 from B6.out.trans (hI.mono GN.out))
     have F7 := Lib.hid (F6.out.below hI hXN)
     have BW7 := Lib.hid (show Below w.heap.size w w7 from BW.out.trans (B7.out.mono BW.out.size))
     clear hI F6 B6 hXN hGN hgN GN
     cases hr : (pk && decide (x.num ≤ y.num)) with
     | true =>
      have H3 := Lib.hid (show lstE d = 8 by
       have e : cutN d.cuts day k x = 8 := by rw [HN1.out, if_pos hr]
       have e2 : cutL d.cuts day 0 d.cuts = 8 := by rw [← HF.out, HD.out, e, if_neg (by decide)]
       rw [HE.out, if_pos (by rw [e2]; decide), e2])
      go_wp2_with fail
      go_ret
      exact ⟨by rw [H3.out]; rfl, BW7.out⟩
     | false =>
     have HN2 := Lib.hid (show cutN d.cuts day k x = if q ≠ 0 then q else if (pk && decide (x.i < y.o)) = true then 14 else 0 by rw [HN1.out, if_neg (by rw [hr]; decide)])
     clear hr HN1
     have fq := F7.out.cell
     have hX7 := F7.out.lt
     unfold Ct.cs at fq
     go_wp2_with fail
     refine (HCK.out w7).mono ?_
     rintro e' w8 ⟨rfl, hb⟩
     have B8 := Lib.hid (B7.out.trans (hb.mono B7.out.size))
     have F8 := Lib.hid (F7.out.ext hb)
     have BW8 := Lib.hid (show Below w.heap.size w w8 from BW.out.trans (B8.out.mono BW.out.size))
     have G8 := Lib.hid (FR.out.ext B8.out)
     clear hb fq hX7 F7 B7 BW7 HCK
     by_cases hq0' : q ≠ 0
     ·have t0 : (q != 0) = true := by simpa using hq0'
      have H3 := Lib.hid (show lstE d = q by
       have e : cutN d.cuts day k x = q := by rw [HN2.out, if_pos hq0']
       have e2 : cutL d.cuts day 0 d.cuts = q := by rw [← HF.out, HD.out, e, if_neg (by exact hq0')]
       rw [HE.out, if_pos (by rw [e2]; exact hq0'), e2])
      go_wp2_with fail
      go_ret
      exact ⟨by rw [H3.out]; rfl, BW8.out⟩
     have hq0 : q = 0 := by omega
     clear hq0'
     have HN3 := Lib.hid (show cutN d.cuts day k x = if (pk && decide (x.i < y.o)) = true then 14 else 0 by rw [HN2.out, if_neg (by omega)])
     subst hq0
     clear HN2
     have fq := F8.out.cell
     have hX8 := F8.out.lt
     unfold Ct.cs at fq
     go_wp2_with fail
     clear fq hX8
     obtain ⟨N, hN⟩ : ∃ N, N = w8.heap.size := ⟨_, rfl⟩
     have hXN : X < N := by have := F8.out.lt; omega
     have hGN : G < N := by have := G8.out.lt; omega
     obtain ⟨g3, o3, eg, y0', y1', y2', y3', y4', y5', y6'⟩ := CutsAt.get (HR.out.ext (Flat.stays _) B8.out) HY0.out
     obtain ⟨rfl, rfl⟩ : g2 = g3 ∧ o2 = o3 := by
      injection eg with e
      injection e with e1 e2
      exact ⟨e1, e2⟩
     clear eg
     have hgN : g2 < N := by have h : g2 < w8.heap.size := World.block_lt_of_cell? w8 _ y0'; omega
     have GN := Lib.hid (show wr.heap.size ≤ N by have := B8.out.size; omega)
     clear hN
     have e0 : w8.cell? ⟨X, 0, none⟩ = some (.int .i64 x.num) := F8.out.cell 0
     have e3 : w8.cell? ⟨X, 3, none⟩ = some (.int .i64 x.i) := F8.out.cell 3
     have d3 : w8.cell? ⟨G, 3, none⟩ = some (.slice (some ⟨g2, o2, none⟩) d.cuts.length cc) := G8.out.cell 3
     have hpk1 : decide ((0 : Int) < (k : Int)) = pk := by rw [HP.out.1]; simp
     have hpk2 : decide (0 < k) = pk := HP.out.1.symm
     have m4 : (m : Int) < (d.cuts.length : Int) := by have := HP.out.2.2; omega
     have m4' : m < d.cuts.length := HP.out.2.2
     have m3 : pk = true → IntKind.i64.wrap ((k : Int) - 1) = (m : Int) := fun h => by
      have := HP.out.2.1 (of_decide_eq_true (HP.out.1.symm.trans h))
      rw [IntKind.wrap_i64]
      omega
     refine wp_region_spec (by kernel_rfl) (fun w' => Below N w8 w') (PhiL3 X G g2 o2 m k d.cuts.length cc x y pk) 99 rfl (by kernel_rfl) (Below.refl _ _).drew ?hops ?hend
     case hops =>
      refine ⟨?o0, ?o1, ?o2, ?o3, ?o4, ?o5, ?o6, ?o7, ?o8, ?o9, ?o10, ?o11, ?o12, ?o13, ?o14, ?o15, trivial⟩
      case o0 =>
       intro ev w8 hI hdep hfree
       have a4 : ev 4 = .int .i64 (k : Int) := hfree 4 (by kernel_rfl)
       clear hdep hfree
       try dsimp only
       simp [OpRuns, execOp, evalOf, a4, go_sem]
       exact ⟨hI, rfl⟩
      case o1 =>
       intro ev w8 hI hdep hfree
       have a78 : ev 78 = .int .i64 (k : Int) := hdep 0 78 (by kernel_rfl) (by kernel_rfl)
       clear hdep hfree
       try dsimp only
       simp [OpRuns, execOp, evalOf, a78, go_sem]
       exact ⟨hI, congrArg Value.bool hpk2⟩
      case o2 =>
       intro ev w8 hI hdep hfree
       have a79 : ev 79 = .bool (pk) := hdep 1 79 (by kernel_rfl) (by kernel_rfl)
       clear hdep hfree
       try dsimp only
       simp [OpRuns, execOp, evalOf, a79, go_sem]
       exact ⟨hI, rfl⟩
      case o3 =>
       intro ev w8 hI hdep hfree
       have ag : ev 80 = .bool pk := hdep 2 80 (by kernel_rfl) (by kernel_rfl)
       refine ⟨fun hy => ?_, fun hn d hd => ?_⟩
       rotate_left
       ·cases hd
        exact ⟨fun hr => absurd ((yield_of (by kernel_rfl) ag).trans (congrArg some hr)) hn, fun _ => rfl⟩
       have hR : pk = true := Option.some.inj ((yield_of (by kernel_rfl) ag).symm.trans hy)
       clear hy ag
       have a5 : ev 5 = .pointer (some ⟨X, 0, none⟩) := hfree 5 (by kernel_rfl)
       clear hdep hfree
       try dsimp only
       simp [OpRuns, execOp, evalOf, a5, go_sem]
       exact ⟨hI, ⟨fun _ => rfl, fun h => absurd hR h⟩⟩
      case o4 =>
       intro ev w8 hI hdep hfree
       have ag : ev 80 = .bool pk := hdep 2 80 (by kernel_rfl) (by kernel_rfl)
       refine ⟨fun hy => ?_, fun hn d hd => ?_⟩
       rotate_left
       ·cases hd
        exact ⟨fun hr => absurd ((yield_of (by kernel_rfl) ag).trans (congrArg some hr)) hn, fun _ => rfl⟩
       have hR : pk = true := Option.some.inj ((yield_of (by kernel_rfl) ag).symm.trans hy)
       clear hy ag
       have a81 : ev 81 = .pointer (some ⟨X, 3, none⟩) := (hdep 3 81 (by kernel_rfl) (by kernel_rfl)).1 hR
       clear hdep hfree
       try dsimp only
       simp [OpRuns, execOp, evalOf, a81, go_sem]
       exact ⟨hI, ⟨fun _ => rfl, fun h => absurd hR h⟩⟩
      case o5 =>
       intro ev w8 hI hdep hfree
       have ag : ev 80 = .bool pk := hdep 2 80 (by kernel_rfl) (by kernel_rfl)
       refine ⟨fun hy => ?_, fun hn d hd => ?_⟩
       rotate_left
       ·cases hd
        exact ⟨fun hr => absurd ((yield_of (by kernel_rfl) ag).trans (congrArg some hr)) hn, fun _ => rfl⟩
       have hR : pk = true := Option.some.inj ((yield_of (by kernel_rfl) ag).symm.trans hy)
       clear hy ag
       have a82 : ev 82 = .pointer (some ⟨X, 3, none⟩) := (hdep 4 82 (by kernel_rfl) (by kernel_rfl)).1 hR
       have y0 : w8.cell? ⟨X, 3, none⟩ = some (.int .i64 x.i) := (hI.cell (p := ⟨X, 3, none⟩) hXN).trans e3
       clear hdep hfree
       try dsimp only
       simp [OpRuns, execOp, evalOf, a82, y0, go_sem]
       exact ⟨hI, ⟨fun _ => rfl, fun h => absurd hR h⟩⟩
      case o6 =>
       intro ev w8 hI hdep hfree
       have ag : ev 80 = .bool pk := hdep 2 80 (by kernel_rfl) (by kernel_rfl)
       refine ⟨fun hy => ?_, fun hn d hd => ?_⟩
       rotate_left
       ·cases hd
        exact ⟨fun hr => absurd ((yield_of (by kernel_rfl) ag).trans (congrArg some hr)) hn, fun _ => rfl⟩
       have hR : pk = true := Option.some.inj ((yield_of (by kernel_rfl) ag).symm.trans hy)
       clear hy ag
       have a1 : ev 1 = .pointer (some ⟨G, 0, none⟩) := hfree 1 (by kernel_rfl)
       clear hdep hfree
       try dsimp only
       simp [OpRuns, execOp, evalOf, a1, go_sem]
       exact ⟨hI, ⟨fun _ => rfl, fun h => absurd hR h⟩⟩
      case o7 =>
       intro ev w8 hI hdep hfree
       have ag : ev 80 = .bool pk := hdep 2 80 (by kernel_rfl) (by kernel_rfl)
       refine ⟨fun hy => ?_, fun hn d hd => ?_⟩
       rotate_left
       ·cases hd
        exact ⟨fun hr => absurd ((yield_of (by kernel_rfl) ag).trans (congrArg some hr)) hn, fun _ => rfl⟩
       have hR : pk = true := Option.some.inj ((yield_of (by kernel_rfl) ag).symm.trans hy)
       clear hy ag
       have a84 : ev 84 = .pointer (some ⟨G, 3, none⟩) := (hdep 6 84 (by kernel_rfl) (by kernel_rfl)).1 hR
       have y0 : w8.cell? ⟨G, 3, none⟩ = some (.slice (some ⟨g2, o2, none⟩) d.cuts.length cc) := (hI.cell (p := ⟨G, 3, none⟩) hGN).trans d3
       clear hdep hfree
       try dsimp only
       simp [OpRuns, execOp, evalOf, a84, y0, go_sem]
       exact ⟨hI, ⟨fun _ => rfl, fun h => absurd hR h⟩⟩
      case o8 =>
       intro ev w8 hI hdep hfree
       have ag : ev 80 = .bool pk := hdep 2 80 (by kernel_rfl) (by kernel_rfl)
       refine ⟨fun hy => ?_, fun hn d hd => ?_⟩
       rotate_left
       ·cases hd
        exact ⟨fun hr => absurd ((yield_of (by kernel_rfl) ag).trans (congrArg some hr)) hn, fun _ => rfl⟩
       have hR : pk = true := Option.some.inj ((yield_of (by kernel_rfl) ag).symm.trans hy)
       clear hy ag
       have a4 : ev 4 = .int .i64 (k : Int) := hfree 4 (by kernel_rfl)
       clear hdep hfree
       try dsimp only
       simp [OpRuns, execOp, evalOf, a4, go_sem]
       exact ⟨hI, ⟨fun _ => rfl, fun h => absurd hR h⟩⟩
      case o9 =>
       intro ev w8 hI hdep hfree
       have ag : ev 80 = .bool pk := hdep 2 80 (by kernel_rfl) (by kernel_rfl)
       refine ⟨fun hy => ?_, fun hn d hd => ?_⟩
       rotate_left
       ·cases hd
        exact ⟨fun hr => absurd ((yield_of (by kernel_rfl) ag).trans (congrArg some hr)) hn, fun _ => rfl⟩
       have hR : pk = true := Option.some.inj ((yield_of (by kernel_rfl) ag).symm.trans hy)
       clear hy ag
       have m3' := m3 hR
       have a86 : ev 86 = .int .i64 (k : Int) := (hdep 8 86 (by kernel_rfl) (by kernel_rfl)).1 hR
       clear hdep hfree
       try dsimp only
       simp [OpRuns, execOp, evalOf, a86, m3', go_sem]
       exact ⟨hI, ⟨fun _ => rfl, fun h => absurd hR h⟩⟩
      case o10 =>
       intro ev w8 hI hdep hfree
       have ag : ev 80 = .bool pk := hdep 2 80 (by kernel_rfl) (by kernel_rfl)
       refine ⟨fun hy => ?_, fun hn d hd => ?_⟩
       rotate_left
       ·cases hd
        exact ⟨fun hr => absurd ((yield_of (by kernel_rfl) ag).trans (congrArg some hr)) hn, fun _ => rfl⟩
       have hR : pk = true := Option.some.inj ((yield_of (by kernel_rfl) ag).symm.trans hy)
       clear hy ag
       have a85 : ev 85 = .slice (some ⟨g2, o2, none⟩) d.cuts.length cc := (hdep 7 85 (by kernel_rfl) (by kernel_rfl)).1 hR
       have a87 : ev 87 = .int .i64 (m : Int) := (hdep 9 87 (by kernel_rfl) (by kernel_rfl)).1 hR
       clear hdep hfree
       try dsimp only
       simp [OpRuns, execOp, evalOf, a85, a87, m4, m4', go_sem]
       exact ⟨hI, ⟨fun _ => rfl, fun h => absurd hR h⟩⟩
      case o11 =>
       intro ev w8 hI hdep hfree
       have ag : ev 80 = .bool pk := hdep 2 80 (by kernel_rfl) (by kernel_rfl)
       refine ⟨fun hy => ?_, fun hn d hd => ?_⟩
       rotate_left
       ·cases hd
        exact ⟨fun hr => absurd ((yield_of (by kernel_rfl) ag).trans (congrArg some hr)) hn, fun _ => rfl⟩
       have hR : pk = true := Option.some.inj ((yield_of (by kernel_rfl) ag).symm.trans hy)
       clear hy ag
       have a88 : ev 88 = .pointer (some ⟨g2, o2 + m * 7, none⟩) := (hdep 10 88 (by kernel_rfl) (by kernel_rfl)).1 hR
       clear hdep hfree
       try dsimp only
       simp [OpRuns, execOp, evalOf, a88, go_sem]
       exact ⟨hI, ⟨fun _ => rfl, fun h => absurd hR h⟩⟩
      case o12 =>
       intro ev w8 hI hdep hfree
       have ag : ev 80 = .bool pk := hdep 2 80 (by kernel_rfl) (by kernel_rfl)
       refine ⟨fun hy => ?_, fun hn d hd => ?_⟩
       rotate_left
       ·cases hd
        exact ⟨fun hr => absurd ((yield_of (by kernel_rfl) ag).trans (congrArg some hr)) hn, fun _ => rfl⟩
       have hR : pk = true := Option.some.inj ((yield_of (by kernel_rfl) ag).symm.trans hy)
       clear hy ag
       have a89 : ev 89 = .pointer (some ⟨g2, o2 + m * 7 + 3, none⟩) := (hdep 11 89 (by kernel_rfl) (by kernel_rfl)).1 hR
       clear hdep hfree
       try dsimp only
       simp [OpRuns, execOp, evalOf, a89, go_sem]
       exact ⟨hI, ⟨fun _ => rfl, fun h => absurd hR h⟩⟩
      case o13 =>
       intro ev w8 hI hdep hfree
       have ag : ev 80 = .bool pk := hdep 2 80 (by kernel_rfl) (by kernel_rfl)
       refine ⟨fun hy => ?_, fun hn d hd => ?_⟩
       rotate_left
       ·cases hd
        exact ⟨fun hr => absurd ((yield_of (by kernel_rfl) ag).trans (congrArg some hr)) hn, fun _ => rfl⟩
       have hR : pk = true := Option.some.inj ((yield_of (by kernel_rfl) ag).symm.trans hy)
       clear hy ag
       have a90 : ev 90 = .pointer (some ⟨g2, o2 + m * 7 + 3 + 1, none⟩) := (hdep 12 90 (by kernel_rfl) (by kernel_rfl)).1 hR
       have y0 : w8.cell? ⟨g2, o2 + m * 7 + 3 + 1, none⟩ = some (.int .i64 y.o) := (hI.cell (p := ⟨g2, o2 + m * 7 + 3 + 1, none⟩) hgN).trans y4'
       clear hdep hfree
       try dsimp only
       simp [OpRuns, execOp, evalOf, a90, y0, go_sem]
       exact ⟨hI, ⟨fun _ => rfl, fun h => absurd hR h⟩⟩
      case o14 =>
       intro ev w8 hI hdep hfree
       have ag : ev 80 = .bool pk := hdep 2 80 (by kernel_rfl) (by kernel_rfl)
       refine ⟨fun hy => ?_, fun hn d hd => ?_⟩
       rotate_left
       ·cases hd
        exact ⟨fun hr => absurd ((yield_of (by kernel_rfl) ag).trans (congrArg some hr)) hn, fun _ => rfl⟩
       have hR : pk = true := Option.some.inj ((yield_of (by kernel_rfl) ag).symm.trans hy)
       clear hy ag
       have a83 : ev 83 = .int .i64 x.i := (hdep 5 83 (by kernel_rfl) (by kernel_rfl)).1 hR
       have a91 : ev 91 = .int .i64 y.o := (hdep 13 91 (by kernel_rfl) (by kernel_rfl)).1 hR
       clear hdep hfree
       try dsimp only
       simp [OpRuns, execOp, evalOf, a83, a91, go_sem]
       exact ⟨hI, ⟨fun _ => rfl, fun h => absurd hR h⟩⟩
      case o15 =>
       intro ev w8 hI hdep hfree
       have a80 : ev 80 = .bool (pk) := hdep 2 80 (by kernel_rfl) (by kernel_rfl)
       have ax : pk = true → ev 92 = .bool (decide (x.i < y.o)) := fun hc => (hdep 14 92 (by kernel_rfl) (by kernel_rfl)).1 hc
       clear hdep hfree
       obtain ⟨cc, hcc⟩ : ∃ cc, cc = pk := ⟨_, rfl⟩
       rw [← hcc] at a80
       cases cc with
       | true =>
        have ax := ax hcc.symm
        have hv : (Value.bool (decide (x.i < y.o))) = (Value.bool (pk && (decide (x.i < y.o)))) := by rw [← hcc]; simp
        clear hcc
        try dsimp only
        simp [OpRuns, execOp, evalOf, a80, ax, go_sem]
        exact ⟨hI, hv⟩
       | false =>
        clear ax
        have hv : Value.bool false = (Value.bool (pk && (decide (x.i < y.o)))) := by rw [← hcc]; simp
        clear hcc
        try dsimp only
        simp [OpRuns, execOp, evalOf, a80, go_sem]
        exact ⟨hI, hv⟩
     case hend =>
      intro a w9 hdf hsz hI hPhi hkept
      replace hdf : a.defers = [] := hdf
      replace hsz : a.tmps.size = 99 := hsz
      have x93 : a.tmps.getD 93 undef = .bool (pk && (decide (x.i < y.o))) := hPhi 15 93 (by kernel_rfl)
      have x0 : a.tmps.getD 0 undef = Value.agg #[Value.string (sB d.title), Value.int IntKind.u8 d.rate, Value.bool false, Value.slice (some { block := g2, off := o2 }) d.cuts.length cc] := hkept 0 (kept_all (by kernel_rfl))
      have x1 : a.tmps.getD 1 undef = Value.pointer (some { block := G, off := 0 }) := hkept 1 (kept_all (by kernel_rfl))
      have x2 : a.tmps.getD 2 undef = u2 := hkept 2 (kept_all (by kernel_rfl))
      have x3 : a.tmps.getD 3 undef = Value.int IntKind.i64 day := hkept 3 (kept_all (by kernel_rfl))
      have x4 : a.tmps.getD 4 undef = Value.int IntKind.i64 (↑k : Int) := hkept 4 (kept_all (by kernel_rfl))
      have x5 : a.tmps.getD 5 undef = Value.pointer (some { block := X, off := 0 }) := hkept 5 (kept_all (by kernel_rfl))
      have x6 : a.tmps.getD 6 undef = Value.int IntKind.i64 0 := hkept 6 (kept_all (by kernel_rfl))
      have x7 : a.tmps.getD 7 undef = Value.bool false := hkept 7 (kept_all (by kernel_rfl))
      have x8 : a.tmps.getD 8 undef = Value.pointer (some { block := G, off := 0 }) := hkept 8 (kept_all (by kernel_rfl))
      have x9 : a.tmps.getD 9 undef = Value.string (sB d.title) := hkept 9 (kept_all (by kernel_rfl))
      have x10 : a.tmps.getD 10 undef = Value.bool true := hkept 10 (kept_all (by kernel_rfl))
      have x11 : a.tmps.getD 11 undef = Value.bool false := hkept 11 (kept_all (by kernel_rfl))
      have x12 : a.tmps.getD 12 undef = Value.bool (decide (400 < (↑d.title.length : Int))) := hkept 12 (kept_all (by kernel_rfl))
      have x13 : a.tmps.getD 13 undef = Value.pointer (some { block := G, off := 0 }) := hkept 13 (kept_all (by kernel_rfl))
      have x14 : a.tmps.getD 14 undef = Value.string (sB d.title) := hkept 14 (kept_all (by kernel_rfl))
      have x15 : a.tmps.getD 15 undef = Value.int IntKind.i64 (↑d.title.length : Int) := hkept 15 (kept_all (by kernel_rfl))
      have x16 : a.tmps.getD 16 undef = Value.bool (decide (400 < (↑d.title.length : Int))) := hkept 16 (kept_all (by kernel_rfl))
      have x17 : a.tmps.getD 17 undef = Value.bool false := hkept 17 (kept_all (by kernel_rfl))
      have x18 : a.tmps.getD 18 undef = Value.pointer (some { block := G, off := 1 }) := hkept 18 (kept_all (by kernel_rfl))
      have x19 : a.tmps.getD 19 undef = Value.int IntKind.u8 d.rate := hkept 19 (kept_all (by kernel_rfl))
      have x20 : a.tmps.getD 20 undef = Value.bool true := hkept 20 (kept_all (by kernel_rfl))
      have x21 : a.tmps.getD 21 undef = Value.bool false := hkept 21 (kept_all (by kernel_rfl))
      have x22 : a.tmps.getD 22 undef = Value.bool false := hkept 22 (kept_all (by kernel_rfl))
      have x23 : a.tmps.getD 23 undef = Value.pointer (some { block := G, off := 2 }) := hkept 23 (kept_all (by kernel_rfl))
      have x24 : a.tmps.getD 24 undef = Value.bool false := hkept 24 (kept_all (by kernel_rfl))
      have x25 : a.tmps.getD 25 undef = Value.bool false := hkept 25 (kept_all (by kernel_rfl))
      have x26 : a.tmps.getD 26 undef = undef := hkept 26 (kept_all (by kernel_rfl))
      have x27 : a.tmps.getD 27 undef = undef := hkept 27 (kept_all (by kernel_rfl))
      have x28 : a.tmps.getD 28 undef = undef := hkept 28 (kept_all (by kernel_rfl))
      have x29 : a.tmps.getD 29 undef = undef := hkept 29 (kept_all (by kernel_rfl))
      have x30 : a.tmps.getD 30 undef = Value.bool false := hkept 30 (kept_all (by kernel_rfl))
      have x31 : a.tmps.getD 31 undef = Value.bool false := hkept 31 (kept_all (by kernel_rfl))
      have x32 : a.tmps.getD 32 undef = Value.bool (decide (64 < (↑d.cuts.length : Int))) := hkept 32 (kept_all (by kernel_rfl))
      have x33 : a.tmps.getD 33 undef = Value.pointer (some { block := G, off := 3 }) := hkept 33 (kept_all (by kernel_rfl))
      have x34 : a.tmps.getD 34 undef = Value.slice (some { block := g2, off := o2 }) d.cuts.length cc := hkept 34 (kept_all (by kernel_rfl))
      have x35 : a.tmps.getD 35 undef = Value.int IntKind.i64 (↑d.cuts.length : Int) := hkept 35 (kept_all (by kernel_rfl))
      have x36 : a.tmps.getD 36 undef = Value.bool (decide (64 < (↑d.cuts.length : Int))) := hkept 36 (kept_all (by kernel_rfl))
      have x37 : a.tmps.getD 37 undef = Value.pointer (some { block := G, off := 1 }) := hkept 37 (kept_all (by kernel_rfl))
      have x38 : a.tmps.getD 38 undef = Value.int IntKind.u8 d.rate := hkept 38 (kept_all (by kernel_rfl))
      have x39 : a.tmps.getD 39 undef = Value.pointer (some { block := G, off := 2 }) := hkept 39 (kept_all (by kernel_rfl))
      have x40 : a.tmps.getD 40 undef = Value.bool false := hkept 40 (kept_all (by kernel_rfl))
      have x41 : a.tmps.getD 41 undef = Value.int IntKind.i64 day := hkept 41 (kept_all (by kernel_rfl))
      have x42 : a.tmps.getD 42 undef = Value.pointer (some { block := G, off := 3 }) := hkept 42 (kept_all (by kernel_rfl))
      have x43 : a.tmps.getD 43 undef = Value.slice (some { block := g2, off := o2 }) d.cuts.length cc := hkept 43 (kept_all (by kernel_rfl))
      have x44 : a.tmps.getD 44 undef = Value.int IntKind.i64 (↑d.cuts.length : Int) := hkept 44 (kept_all (by kernel_rfl))
      have x45 : a.tmps.getD 45 undef = Value.int IntKind.i64 (↑k : Int) := hkept 45 (kept_all (by kernel_rfl))
      have x46 : a.tmps.getD 46 undef = Value.bool true := hkept 46 (kept_all (by kernel_rfl))
      have x47 : a.tmps.getD 47 undef = Value.int IntKind.i64 (↑k : Int) := hkept 47 (kept_all (by kernel_rfl))
      have x48 : a.tmps.getD 48 undef = Value.pointer (some { block := g2, off := o2 + k * 7 }) := hkept 48 (kept_all (by kernel_rfl))
      have x49 : a.tmps.getD 49 undef = Value.agg #[Value.int IntKind.i64 x.num, Value.string (sB x.reel), Value.int IntKind.i64 x.src, Value.int IntKind.i64 x.i, Value.int IntKind.i64 x.o, Value.int IntKind.i64 x.sn, Value.int IntKind.i64 x.sd] := hkept 49 (kept_all (by kernel_rfl))
      have x50 : a.tmps.getD 50 undef = Value.pointer (some { block := X, off := 0 }) := hkept 50 (kept_all (by kernel_rfl))
      have x51 : a.tmps.getD 51 undef = Value.int IntKind.i64 x.num := hkept 51 (kept_all (by kernel_rfl))
      have x52 : a.tmps.getD 52 undef = Value.bool false := hkept 52 (kept_all (by kernel_rfl))
      have x53 : a.tmps.getD 53 undef = Value.bool false := hkept 53 (kept_all (by kernel_rfl))
      have x54 : a.tmps.getD 54 undef = Value.pointer (some { block := X, off := 0 }) := hkept 54 (kept_all (by kernel_rfl))
      have x55 : a.tmps.getD 55 undef = Value.int IntKind.i64 x.num := hkept 55 (kept_all (by kernel_rfl))
      have x56 : a.tmps.getD 56 undef = Value.bool false := hkept 56 (kept_all (by kernel_rfl))
      have x57 : a.tmps.getD 57 undef = Value.bool false := hkept 57 (kept_all (by kernel_rfl))
      have x58 : a.tmps.getD 58 undef = u58 := hkept 58 (kept_all (by kernel_rfl))
      have x59 : a.tmps.getD 59 undef = u59 := hkept 59 (kept_all (by kernel_rfl))
      have x60 : a.tmps.getD 60 undef = u60 := hkept 60 (kept_all (by kernel_rfl))
      have x61 : a.tmps.getD 61 undef = u61 := hkept 61 (kept_all (by kernel_rfl))
      have x62 : a.tmps.getD 62 undef = u62 := hkept 62 (kept_all (by kernel_rfl))
      have x63 : a.tmps.getD 63 undef = u63 := hkept 63 (kept_all (by kernel_rfl))
      have x64 : a.tmps.getD 64 undef = u64 := hkept 64 (kept_all (by kernel_rfl))
      have x65 : a.tmps.getD 65 undef = u65 := hkept 65 (kept_all (by kernel_rfl))
      have x66 : a.tmps.getD 66 undef = u66 := hkept 66 (kept_all (by kernel_rfl))
      have x67 : a.tmps.getD 67 undef = u67 := hkept 67 (kept_all (by kernel_rfl))
      have x68 : a.tmps.getD 68 undef = u68 := hkept 68 (kept_all (by kernel_rfl))
      have x69 : a.tmps.getD 69 undef = u69 := hkept 69 (kept_all (by kernel_rfl))
      have x70 : a.tmps.getD 70 undef = u70 := hkept 70 (kept_all (by kernel_rfl))
      have x71 : a.tmps.getD 71 undef = Value.bool false := hkept 71 (kept_all (by kernel_rfl))
      have x72 : a.tmps.getD 72 undef = Value.agg #[Value.int IntKind.i64 x.num, Value.string (sB x.reel), Value.int IntKind.i64 x.src, Value.int IntKind.i64 x.i, Value.int IntKind.i64 x.o, Value.int IntKind.i64 x.sn, Value.int IntKind.i64 x.sd] := hkept 72 (kept_all (by kernel_rfl))
      have x73 : a.tmps.getD 73 undef = Value.int IntKind.i64 day := hkept 73 (kept_all (by kernel_rfl))
      have x74 : a.tmps.getD 74 undef = Value.int IntKind.i64 0 := hkept 74 (kept_all (by kernel_rfl))
      have x75 : a.tmps.getD 75 undef = Value.int IntKind.i64 0 := hkept 75 (kept_all (by kernel_rfl))
      have x76 : a.tmps.getD 76 undef = Value.bool false := hkept 76 (kept_all (by kernel_rfl))
      have x77 : a.tmps.getD 77 undef = u77 := hkept 77 (kept_all (by kernel_rfl))
      have x94 : a.tmps.getD 94 undef = u94 := hkept 94 (kept_all (by kernel_rfl))
      have x95 : a.tmps.getD 95 undef = undef := hkept 95 (kept_all (by kernel_rfl))
      have x96 : a.tmps.getD 96 undef = undef := hkept 96 (kept_all (by kernel_rfl))
      have x97 : a.tmps.getD 97 undef = undef := hkept 97 (kept_all (by kernel_rfl))
      have x98 : a.tmps.getD 98 undef = undef := hkept 98 (kept_all (by kernel_rfl))
      have ea := act_lit hsz hdf
      simp only [getDs] at ea
      rw [x93, x0, x1, x2, x3, x4, x5, x6, x7, x8, x9, x10, x11, x12, x13, x14, x15, x16, x17, x18, x19, x20, x21, x22, x23, x24, x25, x26, x27, x28, x29, x30, x31, x32, x33, x34, x35, x36, x37, x38, x39, x40, x41, x42, x43, x44, x45, x46, x47, x48, x49, x50, x51, x52, x53, x54, x55, x56, x57, x58, x59, x60, x61, x62, x63, x64, x65, x66, x67, x68, x69, x70, x71, x72, x73, x74, x75, x76, x77, x94, x95, x96, x97, x98] at ea
      rw [ea]
      clear ea x93 x0 x1 x2 x3 x4 x5 x6 x7 x8 x9 x10 x11 x12 x13 x14 x15 x16 x17 x18 x19 x20 x21 x22 x23 x24 x25 x26 x27 x28 x29 x30 x31 x32 x33 x34 x35 x36 x37 x38 x39 x40 x41 x42 x43 x44 x45 x46 x47 x48 x49 x50 x51 x52 x53 x54 x55 x56 x57 x58 x59 x60 x61 x62 x63 x64 x65 x66 x67 x68 x69 x70 x71 x72 x73 x74 x75 x76 x77 x94 x95 x96 x97 x98 hPhi hkept hdf hsz
      generalize a.tmps.getD 78 undef = u78
      generalize a.tmps.getD 79 undef = u79
      generalize a.tmps.getD 80 undef = u80
      generalize a.tmps.getD 81 undef = u81
      generalize a.tmps.getD 82 undef = u82
      generalize a.tmps.getD 83 undef = u83
      generalize a.tmps.getD 84 undef = u84
      generalize a.tmps.getD 85 undef = u85
      generalize a.tmps.getD 86 undef = u86
      generalize a.tmps.getD 87 undef = u87
      generalize a.tmps.getD 88 undef = u88
      generalize a.tmps.getD 89 undef = u89
      generalize a.tmps.getD 90 undef = u90
      generalize a.tmps.getD 91 undef = u91
      generalize a.tmps.getD 92 undef = u92
      clear a
      clear hpk1 hpk2 m4 m4' m3 e0 e3 d3 y0' y1' y2' y3' y4' y5' y6'
      have B9 := Lib.hid (show Below wr.heap.size wr w9 from B8.out.trans (hI.mono GN.out))
      have BW9 := Lib.hid (show Below w.heap.size w w9 from BW.out.trans (B9.out.mono BW.out.size))
      clear hI F8 B8 hXN hGN hgN GN
      cases hr : (pk && decide (x.i < y.o)) with
      | true =>
       have H3 := Lib.hid (show lstE d = 14 by
        have e : cutN d.cuts day k x = 14 := by rw [HN3.out, if_pos hr]
        have e2 : cutL d.cuts day 0 d.cuts = 14 := by rw [← HF.out, HD.out, e, if_neg (by decide)]
        rw [HE.out, if_pos (by rw [e2]; decide), e2])
       go_wp2_with fail
       go_ret
       exact ⟨by rw [H3.out]; rfl, BW9.out⟩
      | false =>
      have e0' : cutN d.cuts day k x = 0 := by rw [HN3.out, if_neg (by rw [hr]; decide)]
      have H3 := Lib.hid (show cutL d.cuts day (k + 1) (d.cuts.drop (k + 1)) = cutL d.cuts day 0 d.cuts by rw [← HF.out, HD.out, if_pos e0'])
      have BM := Lib.hid (show Below w4.heap.size w4 w9 from BR.out.trans (B9.out.mono BR.out.size))
      clear e0' HN3 HF HD hr
      go_wp2_with fail
      go_roundw
      case rel => exact ⟨k + 1, by have := HI.out.2; omega, by go_num, H3, BM⟩
      case measure => simp [intOf]; have := HI.out.2; omega
   ·obtain rfl : k = d.cuts.length := by omega
    have e0 : cutL d.cuts day 0 d.cuts = 0 := by rw [← HF.out, List.drop_length]; rfl
    have HE5 := Lib.hid (show lstE d = if 16 < nr then 9 else 0 by rw [HE.out, if_neg (by rw [e0]; simp)])
    have fq := FR.out.cell
    have hGr : G < wr.heap.size := FR.out.lt
    unfold Lst.cs at fq
    rw [hdd] at fq
    clear hlt HF e0 HE
    go_wp2_with fail
    refine (HRL.out wr BW.out).mono ?_
    rintro e' w9 ⟨⟨A9, c9, rfl⟩, hb⟩
    have B9 := Lib.hid (BW.out.trans (hb.mono BW.out.size))
    clear fq hb
    by_cases h9 : 16 < nr
    ·have H3 := Lib.hid (show lstE d = 9 by rw [HE5.out, if_pos h9])
     have t0 : (16 : Int) < (nr : Int) := by omega
     go_wp2_with fail
     go_ret
     exact ⟨by rw [H3.out]; rfl, B9.out⟩
    have H3 := Lib.hid (show lstE d = 0 by rw [HE5.out, if_neg h9])
    have t0 : ¬ (16 : Int) < (nr : Int) := by omega
    go_wp2_with fail
    go_ret
    exact ⟨by rw [H3.out]; rfl, B9.out⟩
end Go.Proofs.YtmopjhbfobmklaaGreatDoor
