/-
  The contract of Check of edl. Its conditions are its hypotheses.
-/
import Derived.Test.YtmopjhbfobmklaaGreatDoorMCg
set_option maxRecDepth 100000
set_option maxHeartbeats 40000000
namespace Go.Proofs.YtmopjhbfobmklaaGreatDoor
open Go.RowKit Go.Joins
set_option linter.unusedVariables false
set_option linter.unusedSimpArgs false
def cutN (l : List Ct) (day : Int) (k : Nat) (x : Ct) : Int :=
 if x.num < 1 ∨ 999 < x.num then 2 else if (match prv l k with | some y => decide (x.num ≤ y.num) | none => false) = true then 8 else if cutE x day ≠ 0 then cutE x day else if (match prv l k with | some y => decide (x.i < y.o) | none => false) = true then 14 else 0
def cutL (l : List Ct) (day : Int) : Nat → List Ct → Int
 | _, [] => 0
 | k, x :: t => if cutN l day k x = 0 then cutL l day (k + 1) t else cutN l day k x
theorem cutL_drop {l : List Ct} {day : Int} {k : Nat} {x : Ct} (hk : l[k]? = some x) : cutL l day k (l.drop k) = if cutN l day k x = 0 then cutL l day (k + 1) (l.drop (k + 1)) else cutN l day k x := by
 rw [List.drop_eq_getElem_cons (List.getElem?_eq_some_iff.1 hk).1, (List.getElem?_eq_some_iff.1 hk).2]
 rfl
def lstE (d : Lst) : Int :=
 if valV (sB d.title) = false then 10 else if 400 < d.title.length then 9 else if rateD d.rate d.drop ≠ 0 then 13 else if 64 < d.cuts.length then 9 else if cutL d.cuts (dayV d.rate d.drop) 0 d.cuts ≠ 0 then cutL d.cuts (dayV d.rate d.drop) 0 d.cuts else if 16 < relsN d.cuts then 9 else 0
structure LsOk (d : Lst) : Prop where
 title : d.title.length ≤ 2000000
 rate : 0 ≤ d.rate ∧ d.rate ≤ 255
 cutl : d.cuts.length ≤ 2000000
 cuts : ∀ x ∈ d.cuts, CtOk x
theorem rateD_iff (r : Int) (d : Bool) : rateD r d ≠ 0 ↔ (!rtOk r || (d && !(rt r).drop)) = true := by
 unfold rateD
 split
 ·rename_i h; exact ⟨fun _ => h, fun _ => by decide⟩
 rename_i h; exact ⟨fun h' => absurd rfl h', fun h' => absurd h' h⟩
def PhiL2Y (X G g2 o2 m k n' cc : Nat) (x y : Ct) (pk : Bool) : Nat → Value → Prop
 | 58, v => v = .int .i64 (k : Int)
 | 59, v => v = .bool (pk)
 | 60, v => v = .bool (pk)
 | 61, v => (pk = true → v = .pointer (some ⟨X, 0, none⟩)) ∧ (¬ (pk = true) → v = undef)
 | 62, v => (pk = true → v = .int .i64 x.num) ∧ (¬ (pk = true) → v = undef)
 | 63, v => (pk = true → v = .pointer (some ⟨G, 3, none⟩)) ∧ (¬ (pk = true) → v = undef)
 | 64, v => (pk = true → v = .slice (some ⟨g2, o2, none⟩) n' cc) ∧ (¬ (pk = true) → v = undef)
 | 65, v => (pk = true → v = .int .i64 (k : Int)) ∧ (¬ (pk = true) → v = undef)
 | 66, v => (pk = true → v = .int .i64 (m : Int)) ∧ (¬ (pk = true) → v = undef)
 | 67, v => (pk = true → v = .pointer (some ⟨g2, o2 + m * 7, none⟩)) ∧ (¬ (pk = true) → v = undef)
 | 68, v => (pk = true → v = .pointer (some ⟨g2, o2 + m * 7, none⟩)) ∧ (¬ (pk = true) → v = undef)
 | 69, v => (pk = true → v = .int .i64 y.num) ∧ (¬ (pk = true) → v = undef)
 | 70, v => (pk = true → v = .bool (decide (x.num ≤ y.num))) ∧ (¬ (pk = true) → v = undef)
 | 71, v => v = .bool (pk && (decide (x.num ≤ y.num)))
 | _, _ => True
def PhiL2 (X G g2 o2 m k n' cc : Nat) (x y : Ct) (pk : Bool) (sl : Nat) (v : Value) (w : World) : Prop := PhiL2Y X G g2 o2 m k n' cc x y pk sl v
def PhiL3Y (X G g2 o2 m k n' cc : Nat) (x y : Ct) (pk : Bool) : Nat → Value → Prop
 | 78, v => v = .int .i64 (k : Int)
 | 79, v => v = .bool (pk)
 | 80, v => v = .bool (pk)
 | 81, v => (pk = true → v = .pointer (some ⟨X, 3, none⟩)) ∧ (¬ (pk = true) → v = undef)
 | 82, v => (pk = true → v = .pointer (some ⟨X, 3, none⟩)) ∧ (¬ (pk = true) → v = undef)
 | 83, v => (pk = true → v = .int .i64 x.i) ∧ (¬ (pk = true) → v = undef)
 | 84, v => (pk = true → v = .pointer (some ⟨G, 3, none⟩)) ∧ (¬ (pk = true) → v = undef)
 | 85, v => (pk = true → v = .slice (some ⟨g2, o2, none⟩) n' cc) ∧ (¬ (pk = true) → v = undef)
 | 86, v => (pk = true → v = .int .i64 (k : Int)) ∧ (¬ (pk = true) → v = undef)
 | 87, v => (pk = true → v = .int .i64 (m : Int)) ∧ (¬ (pk = true) → v = undef)
 | 88, v => (pk = true → v = .pointer (some ⟨g2, o2 + m * 7, none⟩)) ∧ (¬ (pk = true) → v = undef)
 | 89, v => (pk = true → v = .pointer (some ⟨g2, o2 + m * 7 + 3, none⟩)) ∧ (¬ (pk = true) → v = undef)
 | 90, v => (pk = true → v = .pointer (some ⟨g2, o2 + m * 7 + 3 + 1, none⟩)) ∧ (¬ (pk = true) → v = undef)
 | 91, v => (pk = true → v = .int .i64 y.o) ∧ (¬ (pk = true) → v = undef)
 | 92, v => (pk = true → v = .bool (decide (x.i < y.o))) ∧ (¬ (pk = true) → v = undef)
 | 93, v => v = .bool (pk && (decide (x.i < y.o)))
 | _, _ => True
def PhiL3 (X G g2 o2 m k n' cc : Nat) (x y : Ct) (pk : Bool) (sl : Nat) (v : Value) (w : World) : Prop := PhiL3Y X G g2 o2 m k n' cc x y pk sl v
theorem lcheck_any (d : Lst) (c : Value) (w : World) (hd : CutsAt w c d.cuts) (ho : LsOk d) (hw : Wt w) :
  Calls Tryz.prog 36 #[d.v c] w fun e' w' => e' = .returned (.int .i64 (lstE d)) ∧ Below w.heap.size w w' := by
 have HW := ι hw
 have HDO := ι hd
 have HO := ι ho
 obtain ⟨A, cc, rfl⟩ := hd.form
 clear hw hd ho
 obtain ⟨vt, hvt⟩ : ∃ b, b = valV (sB d.title) := ⟨_, rfl⟩
 obtain ⟨day, hday⟩ : ∃ q, q = dayV d.rate d.drop := ⟨_, rfl⟩
 obtain ⟨ro, hro⟩ : ∃ b, b = rtOk d.rate := ⟨_, rfl⟩
 obtain ⟨rc, hrc⟩ : ∃ b, b = (rt d.rate).drop := ⟨_, rfl⟩
 obtain ⟨nr, hnr⟩ : ∃ n, n = relsN d.cuts := ⟨_, rfl⟩
 have HE0 := ι (show lstE d = if vt = false then 10 else if 400 < d.title.length then 9 else if (!ro || (d.drop && !rc)) = true then 13 else if 64 < d.cuts.length then 9 else if cutL d.cuts day 0 d.cuts ≠ 0 then cutL d.cuts day 0 d.cuts else if 16 < nr then 9 else 0 by
  rw [hvt, hday, hro, hrc, hnr]
  unfold lstE
  simp only [rateD_iff])
 have HV := ι (fun W (hb : Below w.heap.size w W) => hvt ▸ valid_text (sB d.title) W (by rw [sB_size]; have := HO.out.title; omega) (HW.out.on hb))
 have HRO := ι (fun W => hro ▸ valid_any d.rate HO.out.rate.1 HO.out.rate.2 W)
 have HRC := ι (fun W => hrc ▸ canDrop_any d.rate HO.out.rate.1 HO.out.rate.2 W)
 have HDY := ι (fun W => hday ▸ day_any d.rate HO.out.rate.1 HO.out.rate.2 d.drop W)
 have HRL := ι (show ∀ W, Below w.heap.size w W → Calls Tryz.prog 68 #[d.v (.slice A d.cuts.length cc)] W fun e w' => (∃ A c, e = .returned (.slice A nr c)) ∧ Below W.heap.size W w' from fun W hb => by rw [hnr]; exact reels_any d _ W (HDO.out.ext (Flat.stays _) hb) HO.out.cutl)
 have HDAY := ι (show day ≤ 5184000 by rw [hday]; exact (dayV_le _ _).2)
 have hsz : (sB d.title).size = d.title.length := sB_size _
 have hcl := HO.out.cutl
 have htl := HO.out.title
 clear hvt hday hro hrc hnr
 obtain ⟨G, hGe⟩ : ∃ G, G = w.heap.size := ⟨_, rfl⟩
 rw [show d.v (.slice A d.cuts.length cc) = .agg #[.string (sB d.title), .int .u8 d.rate, .bool d.drop, .slice A d.cuts.length cc] from rfl] at HRL ⊢
 go_enter Tryz.func36, Tryz.ntmps36
 go_wp2_with fail
 rw [← hGe]
 generalize hw1 : World.alloc _ _ = w1
 have F1 := ι (show Held w1 G (d.cs (.slice A d.cuts.length cc)) by subst hw1; exact Held.new hGe)
 have B1 := ι (show Below w.heap.size w w1 by subst hw1; exact Below.more' _ _)
 clear hw1 hGe
 refine (HV.out w1 B1.out).mono ?_
 rintro e' w2 ⟨rfl, hb⟩
 have B2 := ι (B1.out.trans (hb.mono B1.out.size))
 have F2 := ι (F1.out.ext hb)
 clear hb F1 B1 HV
 have fq := F2.out.cell
 have hG2 := F2.out.lt
 unfold Lst.cs at fq
 cases vt with
 | false =>
  have H3 := ι (show lstE d = 10 by rw [HE0.out, if_pos rfl])
  go_wp2_with fail
  go_ret
  exact ⟨by rw [H3.out]; rfl, B2.out⟩
 | true =>
 by_cases h4 : 400 < d.title.length
 ·have H3 := ι (show lstE d = 9 by rw [HE0.out, if_neg (by decide), if_pos h4])
  have t0 : (400 : Int) < (d.title.length : Int) := by omega
  clear h4
  go_wp2_with fail
  go_ret
  exact ⟨by rw [H3.out]; rfl, B2.out⟩
 have HE1 := ι (show lstE d = if (!ro || (d.drop && !rc)) = true then 13 else if 64 < d.cuts.length then 9 else if cutL d.cuts day 0 d.cuts ≠ 0 then cutL d.cuts day 0 d.cuts else if 16 < nr then 9 else 0 by rw [HE0.out, if_neg (by decide), if_neg h4])
 have t0 : ¬ (400 : Int) < (d.title.length : Int) := by omega
 clear HE0 h4
 go_wp2_with fail
 clear t0
 refine (HRO.out w2).mono ?_
 rintro e' w2' ⟨rfl, hb⟩
 have B3 := ι (B2.out.trans (hb.mono B2.out.size))
 have F3 := ι (F2.out.ext hb)
 clear hb F2 B2 HRO fq hG2
 have fq := F3.out.cell
 have hG3 := F3.out.lt
 unfold Lst.cs at fq
 cases ro with
 | false =>
  have H3 := ι (show lstE d = 13 by rw [HE1.out]; simp)
  go_wp2_with fail
  go_ret
  exact ⟨by rw [H3.out]; rfl, B3.out⟩
 | true =>
 cases hdd : d.drop with
 | true =>
  rw [hdd] at fq HE1 HDY HRL
  go_wp2_with fail
  refine (HRC.out w2').mono ?_
  rintro e' w3 ⟨rfl, hb⟩
  have B4 := ι (B3.out.trans (hb.mono B3.out.size))
  have F4 := ι (F3.out.ext hb)
  clear hb F3 B3 HRC fq hG3
  have B3 := B4
  have F3 := F4
  clear B4 F4
  have fq := F3.out.cell
  have hG3 := F3.out.lt
  unfold Lst.cs at fq
  rw [hdd] at fq
  cases rc with
  | false =>
   have H3 := ι (show lstE d = 13 by rw [HE1.out]; simp)
   go_wp2_with fail
   go_ret
   exact ⟨by rw [H3.out]; rfl, B3.out⟩
  | true =>
  have HE2 := ι (show lstE d = if 64 < d.cuts.length then 9 else if cutL d.cuts day 0 d.cuts ≠ 0 then cutL d.cuts day 0 d.cuts else if 16 < nr then 9 else 0 by rw [HE1.out, if_neg (by simp)])
  clear HE1
  by_cases h5 : 64 < d.cuts.length
  ·have H3 := ι (show lstE d = 9 by rw [HE2.out, if_pos h5])
   have t0 : (64 : Int) < (d.cuts.length : Int) := by omega
   clear h5
   go_wp2_with fail
   go_ret
   exact ⟨by rw [H3.out]; rfl, B3.out⟩
  have HE := ι (show lstE d = if cutL d.cuts day 0 d.cuts ≠ 0 then cutL d.cuts day 0 d.cuts else if 16 < nr then 9 else 0 by rw [HE2.out, if_neg h5])
  have t0 : ¬ (64 : Int) < (d.cuts.length : Int) := by omega
  clear HE2
  go_wp2_with fail
  clear t0
  refine (HDY.out w3).mono ?_
  rintro e' w4 ⟨rfl, hb⟩
  have B4 := ι (B3.out.trans (hb.mono B3.out.size))
  have F4 := ι (F3.out.ext hb)
  clear hb F3 B3 HDY fq hG3
  have fq := F4.out.cell
  have hG4 := F4.out.lt
  unfold Lst.cs at fq
  rw [hdd] at fq
  go_wp2_with fail
  clear fq
  go_loopw [45] (fun i wr => ∃ k : Nat, k ≤ d.cuts.length ∧ i = .int .i64 k ∧ Hid (cutL d.cuts day k (d.cuts.drop k) = cutL d.cuts day 0 d.cuts) ∧ Hid (Below w4.heap.size w4 wr)) (fun i _ => d.cuts.length - (intOf i).toNat)
  case atStart => exact ⟨0, Nat.zero_le _, rfl, ι rfl, ι (Below.refl _ _)⟩
  case round =>
  obtain ⟨k, hk, rfl, HF, BR⟩ := hrel
  have BW := ι (show Below w.heap.size w wr from B4.out.trans (BR.out.mono B4.out.size))
  have FR := ι (F4.out.below BR.out hG4)
  by_cases hlt : k < d.cuts.length
  ·have hlt2 : (k : Int) < (d.cuts.length : Int) := by omega
   obtain ⟨x, hx⟩ : ∃ x, d.cuts[k]? = some x := ⟨_, List.getElem?_eq_getElem hlt⟩
   have HR := ι (HDO.out.ext (Flat.stays _) BW.out)
   have HD := ι (cutL_drop (day := day) hx)
   obtain ⟨g, o, rfl, p0, p1, p2, p3, p4, p5, p6⟩ := CutsAt.get HR.out hx
   obtain ⟨m, y, hmk, hy⟩ : ∃ m y, (0 < k → m + 1 = k) ∧ d.cuts[m]? = some y := by
    by_cases h0 : 0 < k
    ·exact ⟨k - 1, _, fun _ => by omega, List.getElem?_eq_getElem (by omega)⟩
    exact ⟨k, _, fun h => absurd h h0, hx⟩
   have HY0 := ι hy
   have hml : m < d.cuts.length := (List.getElem?_eq_some_iff.1 hy).1
   have HOX := ι (HO.out.cuts x (List.mem_of_getElem? hx))
   have hgr : g < wr.heap.size := World.block_lt_of_cell? wr _ p0
   obtain ⟨pk, hpk⟩ : ∃ b, b = decide (0 < k) := ⟨_, rfl⟩
   obtain ⟨q, hq⟩ : ∃ q, q = cutE x day := ⟨_, rfl⟩
   have HN := ι (show cutN d.cuts day k x = if x.num < 1 ∨ 999 < x.num then 2 else if (pk && decide (x.num ≤ y.num)) = true then 8 else if q ≠ 0 then q else if (pk && decide (x.i < y.o)) = true then 14 else 0 by
    have e : (match prv d.cuts k with | some y => decide (x.num ≤ y.num) | none => false) = (pk && decide (x.num ≤ y.num)) ∧ (match prv d.cuts k with | some y => decide (x.i < y.o) | none => false) = (pk && decide (x.i < y.o)) := by
     by_cases h0 : 0 < k
     ·have e : prv d.cuts k = some y := by
       unfold prv
       rw [if_neg (by omega), show k - 1 = m by have := hmk h0; omega]
       exact hy
      rw [e, hpk, show decide (0 < k) = true by simpa using h0, Bool.true_and, Bool.true_and]
      exact ⟨rfl, rfl⟩
     have e : prv d.cuts k = none := by
      unfold prv
      rw [if_pos (by omega)]
     rw [e, hpk, show decide (0 < k) = false by simpa using h0, Bool.false_and, Bool.false_and]
     exact ⟨rfl, rfl⟩
    unfold cutN
    rw [e.1, e.2, ← hq])
   have HP := ι (And.intro hpk (And.intro hmk hml))
   have HCK := ι (show ∀ W, Calls Tryz.prog 67 #[.agg #[.int .i64 x.num, .string (sB x.reel), .int .i64 x.src, .int .i64 x.i, .int .i64 x.o, .int .i64 x.sn, .int .i64 x.sd], .int .i64 day] W fun e' w' => e' = .returned (.int .i64 q) ∧ Below W.heap.size W w' from fun W => by
    rw [hq]
    exact checkCut_any x day W HOX.out HDAY.out)
   have HI := ι (And.intro hk hlt)
   clear hx hy hpk hq hmk hml hk
   have fq := FR.out.cell
   have hGr : G < wr.heap.size := FR.out.lt
   unfold Lst.cs at fq
   rw [hdd] at fq
   by_cases hn1 : x.num < 1
   ·have HN0 := ι (show cutN d.cuts day k x = 2 by rw [HN.out, if_pos (.inl hn1)])
    have H3 := ι (show lstE d = 2 by
     have e : cutN d.cuts day k x = 2 := by rw [HN0.out]
     have e2 : cutL d.cuts day 0 d.cuts = 2 := by rw [← HF.out, HD.out, e, if_neg (by decide)]
     rw [HE.out, if_pos (by rw [e2]; decide), e2])
    go_wp2_with fail
    go_ret
    exact ⟨by rw [H3.out]; rfl, ((BW.out.alloc BW.out.size _))⟩
   by_cases hn2 : 999 < x.num
   ·have HN0 := ι (show cutN d.cuts day k x = 2 by rw [HN.out, if_pos (.inr hn2)])
    have H3 := ι (show lstE d = 2 by
     have e : cutN d.cuts day k x = 2 := by rw [HN0.out]
     have e2 : cutL d.cuts day 0 d.cuts = 2 := by rw [← HF.out, HD.out, e, if_neg (by decide)]
     rw [HE.out, if_pos (by rw [e2]; decide), e2])
    go_wp2_with fail
    go_ret
    exact ⟨by rw [H3.out]; rfl, ((BW.out.alloc BW.out.size _))⟩
   have HN1 := ι (show cutN d.cuts day k x = if (pk && decide (x.num ≤ y.num)) = true then 8 else if q ≠ 0 then q else if (pk && decide (x.i < y.o)) = true then 14 else 0 by rw [HN.out, if_neg (by omega)])
   clear HN
   go_wp2_with fail
   clear fq hn1 hn2
   generalize hw5 : World.alloc _ _ = w5
   obtain ⟨X, hX⟩ : ∃ X, X = wr.heap.size := ⟨_, rfl⟩
   rw [← hX]
   have F6 := ι (show Held w5 X x.cs by subst hw5; exact Held.new hX)
   have B6 := ι (show Below wr.heap.size wr w5 by subst hw5; exact Below.more' _ _)
   have G6 := ι (FR.out.ext B6.out)
   clear hw5 hX p0 p1 p2 p3 p4 p5 p6
   obtain ⟨N, hN⟩ : ∃ N, N = w5.heap.size := ⟨_, rfl⟩
   have hXN : X < N := by have := F6.out.lt; omega
   have hGN : G < N := by have := G6.out.lt; omega
   obtain ⟨g2, o2, eg, y0', y1', y2', y3', y4', y5', y6'⟩ := CutsAt.get (HR.out.ext (Flat.stays _) B6.out) HY0.out
   obtain ⟨rfl, rfl⟩ : g2 = g ∧ o2 = o := by
    injection eg with e
    injection e with e1 e2
    exact ⟨e1.symm, e2.symm⟩
   clear eg
   have hgN : g2 < N := by have h : g2 < w5.heap.size := World.block_lt_of_cell? w5 _ y0'; omega
   have GN := ι (show wr.heap.size ≤ N by have := B6.out.size; omega)
   clear hN
   have e0 : w5.cell? ⟨X, 0, none⟩ = some (.int .i64 x.num) := F6.out.cell 0
   have e3 : w5.cell? ⟨X, 3, none⟩ = some (.int .i64 x.i) := F6.out.cell 3
   have d3 : w5.cell? ⟨G, 3, none⟩ = some (.slice (some ⟨g2, o2, none⟩) d.cuts.length cc) := G6.out.cell 3
   have hpk1 : decide ((0 : Int) < (k : Int)) = pk := by rw [HP.out.1]; simp
   have hpk2 : decide (0 < k) = pk := HP.out.1.symm
   have m4 : (m : Int) < (d.cuts.length : Int) := by have := HP.out.2.2; omega
   have m4' : m < d.cuts.length := HP.out.2.2
   have m3 : pk = true → IntKind.i64.wrap ((k : Int) - 1) = (m : Int) := fun h => by
    have := HP.out.2.1 (of_decide_eq_true (HP.out.1.symm.trans h))
    rw [IntKind.wrap_i64]
    omega
   refine wp_region_spec (by kernel_rfl) (fun w' => Below N w5 w') (PhiL2 X G g2 o2 m k d.cuts.length cc x y pk) 99 rfl (by kernel_rfl) (Below.refl _ _).drew ?hops ?hend
   case hops =>
    refine ⟨?o0, ?o1, ?o2, ?o3, ?o4, ?o5, ?o6, ?o7, ?o8, ?o9, ?o10, ?o11, ?o12, ?o13, trivial⟩
    case o0 =>
     intro ev w8 hI δ φ
     have a4 : ev 4 = .int .i64 (k : Int) := φ 4 (by kernel_rfl)
     clear δ φ
     try dsimp only
     simp [OpRuns, execOp, evalOf, a4, go_sem]
     exact ⟨hI, rfl⟩
    case o1 =>
     intro ev w8 hI δ φ
     have a58 : ev 58 = .int .i64 (k : Int) := δ 0 58 (by kernel_rfl) rfl
     clear δ φ
     try dsimp only
     simp [OpRuns, execOp, evalOf, a58, go_sem]
     exact ⟨hI, congrArg Value.bool hpk2⟩
    case o2 =>
     intro ev w8 hI δ φ
     have a59 : ev 59 = .bool (pk) := δ 1 59 (by kernel_rfl) rfl
     clear δ φ
     try dsimp only
     simp [OpRuns, execOp, evalOf, a59, go_sem]
     exact ⟨hI, rfl⟩
    case o3 =>
     intro ev w8 hI δ φ
     have ag : ev 60 = .bool pk := δ 2 60 (by kernel_rfl) rfl
     refine γ ag rfl (fun hR => ?_) fun hn d hd => by cases hd; exact ⟨fun hr => absurd hr hn, fun _ => rfl⟩
     clear ag
     have a5 : ev 5 = .pointer (some ⟨X, 0, none⟩) := φ 5 (by kernel_rfl)
     clear δ φ
     try dsimp only
     simp [OpRuns, execOp, evalOf, a5, go_sem]
     exact ⟨hI, ⟨fun _ => rfl, fun h => absurd hR h⟩⟩
    case o4 =>
     intro ev w8 hI δ φ
     have ag : ev 60 = .bool pk := δ 2 60 (by kernel_rfl) rfl
     refine γ ag rfl (fun hR => ?_) fun hn d hd => by cases hd; exact ⟨fun hr => absurd hr hn, fun _ => rfl⟩
     clear ag
     have a61 : ev 61 = .pointer (some ⟨X, 0, none⟩) := (δ 3 61 (by kernel_rfl) rfl).1 hR
     have y0 : w8.cell? ⟨X, 0, none⟩ = some (.int .i64 x.num) := (hI.cell (p := ⟨X, 0, none⟩) hXN).trans e0
     clear δ φ
     try dsimp only
     simp [OpRuns, execOp, evalOf, a61, y0, go_sem]
     exact ⟨hI, ⟨fun _ => rfl, fun h => absurd hR h⟩⟩
    case o5 =>
     intro ev w8 hI δ φ
     have ag : ev 60 = .bool pk := δ 2 60 (by kernel_rfl) rfl
     refine γ ag rfl (fun hR => ?_) fun hn d hd => by cases hd; exact ⟨fun hr => absurd hr hn, fun _ => rfl⟩
     clear ag
     have a1 : ev 1 = .pointer (some ⟨G, 0, none⟩) := φ 1 (by kernel_rfl)
     clear δ φ
     try dsimp only
     simp [OpRuns, execOp, evalOf, a1, go_sem]
     exact ⟨hI, ⟨fun _ => rfl, fun h => absurd hR h⟩⟩
    case o6 =>
     intro ev w8 hI δ φ
     have ag : ev 60 = .bool pk := δ 2 60 (by kernel_rfl) rfl
     refine γ ag rfl (fun hR => ?_) fun hn d hd => by cases hd; exact ⟨fun hr => absurd hr hn, fun _ => rfl⟩
     clear ag
     have a63 : ev 63 = .pointer (some ⟨G, 3, none⟩) := (δ 5 63 (by kernel_rfl) rfl).1 hR
     have y0 : w8.cell? ⟨G, 3, none⟩ = some (.slice (some ⟨g2, o2, none⟩) d.cuts.length cc) := (hI.cell (p := ⟨G, 3, none⟩) hGN).trans d3
     clear δ φ
     try dsimp only
     simp [OpRuns, execOp, evalOf, a63, y0, go_sem]
     exact ⟨hI, ⟨fun _ => rfl, fun h => absurd hR h⟩⟩
    case o7 =>
     intro ev w8 hI δ φ
     have ag : ev 60 = .bool pk := δ 2 60 (by kernel_rfl) rfl
     refine γ ag rfl (fun hR => ?_) fun hn d hd => by cases hd; exact ⟨fun hr => absurd hr hn, fun _ => rfl⟩
     clear ag
     have a4 : ev 4 = .int .i64 (k : Int) := φ 4 (by kernel_rfl)
     clear δ φ
     try dsimp only
     simp [OpRuns, execOp, evalOf, a4, go_sem]
     exact ⟨hI, ⟨fun _ => rfl, fun h => absurd hR h⟩⟩
    case o8 =>
     intro ev w8 hI δ φ
     have ag : ev 60 = .bool pk := δ 2 60 (by kernel_rfl) rfl
     refine γ ag rfl (fun hR => ?_) fun hn d hd => by cases hd; exact ⟨fun hr => absurd hr hn, fun _ => rfl⟩
     clear ag
     have m3' := m3 hR
     have a65 : ev 65 = .int .i64 (k : Int) := (δ 7 65 (by kernel_rfl) rfl).1 hR
     clear δ φ
     try dsimp only
     simp [OpRuns, execOp, evalOf, a65, m3', go_sem]
     exact ⟨hI, ⟨fun _ => rfl, fun h => absurd hR h⟩⟩
    case o9 =>
     intro ev w8 hI δ φ
     have ag : ev 60 = .bool pk := δ 2 60 (by kernel_rfl) rfl
     refine γ ag rfl (fun hR => ?_) fun hn d hd => by cases hd; exact ⟨fun hr => absurd hr hn, fun _ => rfl⟩
     clear ag
     have a64 : ev 64 = .slice (some ⟨g2, o2, none⟩) d.cuts.length cc := (δ 6 64 (by kernel_rfl) rfl).1 hR
     have a66 : ev 66 = .int .i64 (m : Int) := (δ 8 66 (by kernel_rfl) rfl).1 hR
     clear δ φ
     try dsimp only
     simp [OpRuns, execOp, evalOf, a64, a66, m4, m4', go_sem]
     exact ⟨hI, ⟨fun _ => rfl, fun h => absurd hR h⟩⟩
    case o10 =>
     intro ev w8 hI δ φ
     have ag : ev 60 = .bool pk := δ 2 60 (by kernel_rfl) rfl
     refine γ ag rfl (fun hR => ?_) fun hn d hd => by cases hd; exact ⟨fun hr => absurd hr hn, fun _ => rfl⟩
     clear ag
     have a67 : ev 67 = .pointer (some ⟨g2, o2 + m * 7, none⟩) := (δ 9 67 (by kernel_rfl) rfl).1 hR
     clear δ φ
     try dsimp only
     simp [OpRuns, execOp, evalOf, a67, go_sem]
     exact ⟨hI, ⟨fun _ => rfl, fun h => absurd hR h⟩⟩
    case o11 =>
     intro ev w8 hI δ φ
     have ag : ev 60 = .bool pk := δ 2 60 (by kernel_rfl) rfl
     refine γ ag rfl (fun hR => ?_) fun hn d hd => by cases hd; exact ⟨fun hr => absurd hr hn, fun _ => rfl⟩
     clear ag
     have a68 : ev 68 = .pointer (some ⟨g2, o2 + m * 7, none⟩) := (δ 10 68 (by kernel_rfl) rfl).1 hR
     have y0 : w8.cell? ⟨g2, o2 + m * 7, none⟩ = some (.int .i64 y.num) := (hI.cell (p := ⟨g2, o2 + m * 7, none⟩) hgN).trans y0'
     clear δ φ
     try dsimp only
     simp [OpRuns, execOp, evalOf, a68, y0, go_sem]
     exact ⟨hI, ⟨fun _ => rfl, fun h => absurd hR h⟩⟩
    case o12 =>
     intro ev w8 hI δ φ
     have ag : ev 60 = .bool pk := δ 2 60 (by kernel_rfl) rfl
     refine γ ag rfl (fun hR => ?_) fun hn d hd => by cases hd; exact ⟨fun hr => absurd hr hn, fun _ => rfl⟩
     clear ag
     have a62 : ev 62 = .int .i64 x.num := (δ 4 62 (by kernel_rfl) rfl).1 hR
     have a69 : ev 69 = .int .i64 y.num := (δ 11 69 (by kernel_rfl) rfl).1 hR
     clear δ φ
     try dsimp only
     simp [OpRuns, execOp, evalOf, a62, a69, go_sem]
     exact ⟨hI, ⟨fun _ => rfl, fun h => absurd hR h⟩⟩
    case o13 =>
    intro ev w8 hI δ φ
    have a60 : ev 60 = .bool (pk) := δ 2 60 (by kernel_rfl) rfl
    have ax : pk = true → ev 70 = .bool (decide (x.num ≤ y.num)) := fun hc => (δ 12 70 (by kernel_rfl) rfl).1 hc
    clear δ φ
    obtain ⟨cc, hcc⟩ : ∃ cc, cc = pk := ⟨_, rfl⟩
    rw [← hcc] at a60
    cases cc with
    | true =>
     have ax := ax hcc.symm
     have hv : (Value.bool (decide (x.num ≤ y.num))) = (Value.bool (pk && (decide (x.num ≤ y.num)))) := by rw [← hcc]; simp
     clear hcc
     try dsimp only
     simp [OpRuns, execOp, evalOf, a60, ax, go_sem]
     exact ⟨hI, hv⟩
    | false =>
     clear ax
     have hv : Value.bool false = (Value.bool (pk && (decide (x.num ≤ y.num)))) := by rw [← hcc]; simp
     clear hcc
     try dsimp only
     simp [OpRuns, execOp, evalOf, a60, go_sem]
     exact ⟨hI, hv⟩
   case hend =>
   intro a w7 hdf hsz hI hPhi κ
   replace hdf : a.defers = [] := hdf
   replace hsz : a.tmps.size = 99 := hsz
   have x71 : a.tmps.getD 71 undef = .bool (pk && (decide (x.num ≤ y.num))) := hPhi 13 71 (by kernel_rfl)
   have x0 := κA κ 0 (Value.agg #[Value.string (sB d.title), Value.int IntKind.u8 d.rate, Value.bool true, Value.slice (some { block := g2, off := o2 }) d.cuts.length cc]) rfl rfl
   have x1 := κA κ 1 (Value.pointer (some { block := G, off := 0 })) rfl rfl
   have x2 := κA κ 2 (u2) rfl rfl
   have x3 := κA κ 3 (Value.int IntKind.i64 day) rfl rfl
   have x4 := κA κ 4 (Value.int IntKind.i64 (↑k : Int)) rfl rfl
   have x5 := κA κ 5 (Value.pointer (some { block := X, off := 0 })) rfl rfl
   have x6 := κA κ 6 (u6) rfl rfl
   have x7 := κA κ 7 (Value.bool false) rfl rfl
   have x8 := κA κ 8 (Value.pointer (some { block := G, off := 0 })) rfl rfl
   have x9 := κA κ 9 (Value.string (sB d.title)) rfl rfl
   have x10 := κA κ 10 (Value.bool true) rfl rfl
   have x11 := κA κ 11 (Value.bool false) rfl rfl
   have x12 := κA κ 12 (Value.bool (decide (400 < (↑d.title.length : Int)))) rfl rfl
   have x13 := κA κ 13 (Value.pointer (some { block := G, off := 0 })) rfl rfl
   have x14 := κA κ 14 (Value.string (sB d.title)) rfl rfl
   have x15 := κA κ 15 (Value.int IntKind.i64 (↑d.title.length : Int)) rfl rfl
   have x16 := κA κ 16 (Value.bool (decide (400 < (↑d.title.length : Int)))) rfl rfl
   have x17 := κA κ 17 (Value.bool false) rfl rfl
   have x18 := κA κ 18 (Value.pointer (some { block := G, off := 1 })) rfl rfl
   have x19 := κA κ 19 (Value.int IntKind.u8 d.rate) rfl rfl
   have x20 := κA κ 20 (Value.bool true) rfl rfl
   have x21 := κA κ 21 (Value.bool false) rfl rfl
   have x22 := κA κ 22 (Value.bool false) rfl rfl
   have x23 := κA κ 23 (Value.pointer (some { block := G, off := 2 })) rfl rfl
   have x24 := κA κ 24 (Value.bool true) rfl rfl
   have x25 := κA κ 25 (Value.bool true) rfl rfl
   have x26 := κA κ 26 (Value.pointer (some { block := G, off := 1 })) rfl rfl
   have x27 := κA κ 27 (Value.int IntKind.u8 d.rate) rfl rfl
   have x28 := κA κ 28 (Value.bool true) rfl rfl
   have x29 := κA κ 29 (Value.bool false) rfl rfl
   have x30 := κA κ 30 (Value.bool false) rfl rfl
   have x31 := κA κ 31 (Value.bool false) rfl rfl
   have x32 := κA κ 32 (Value.bool (decide (64 < (↑d.cuts.length : Int)))) rfl rfl
   have x33 := κA κ 33 (Value.pointer (some { block := G, off := 3 })) rfl rfl
   have x34 := κA κ 34 (Value.slice (some { block := g2, off := o2 }) d.cuts.length cc) rfl rfl
   have x35 := κA κ 35 (Value.int IntKind.i64 (↑d.cuts.length : Int)) rfl rfl
   have x36 := κA κ 36 (Value.bool (decide (64 < (↑d.cuts.length : Int)))) rfl rfl
   have x37 := κA κ 37 (Value.pointer (some { block := G, off := 1 })) rfl rfl
   have x38 := κA κ 38 (Value.int IntKind.u8 d.rate) rfl rfl
   have x39 := κA κ 39 (Value.pointer (some { block := G, off := 2 })) rfl rfl
   have x40 := κA κ 40 (Value.bool true) rfl rfl
   have x41 := κA κ 41 (Value.int IntKind.i64 day) rfl rfl
   have x42 := κA κ 42 (Value.pointer (some { block := G, off := 3 })) rfl rfl
   have x43 := κA κ 43 (Value.slice (some { block := g2, off := o2 }) d.cuts.length cc) rfl rfl
   have x44 := κA κ 44 (Value.int IntKind.i64 (↑d.cuts.length : Int)) rfl rfl
   have x45 := κA κ 45 (Value.int IntKind.i64 (↑k : Int)) rfl rfl
   have x46 := κA κ 46 (Value.bool true) rfl rfl
   have x47 := κA κ 47 (Value.int IntKind.i64 (↑k : Int)) rfl rfl
   have x48 := κA κ 48 (Value.pointer (some { block := g2, off := o2 + k * 7 })) rfl rfl
   have x49 := κA κ 49 (Value.agg #[Value.int IntKind.i64 x.num, Value.string (sB x.reel), Value.int IntKind.i64 x.src, Value.int IntKind.i64 x.i, Value.int IntKind.i64 x.o, Value.int IntKind.i64 x.sn, Value.int IntKind.i64 x.sd]) rfl rfl
   have x50 := κA κ 50 (Value.pointer (some { block := X, off := 0 })) rfl rfl
   have x51 := κA κ 51 (Value.int IntKind.i64 x.num) rfl rfl
   have x52 := κA κ 52 (Value.bool false) rfl rfl
   have x53 := κA κ 53 (Value.bool false) rfl rfl
   have x54 := κA κ 54 (Value.pointer (some { block := X, off := 0 })) rfl rfl
   have x55 := κA κ 55 (Value.int IntKind.i64 x.num) rfl rfl
   have x56 := κA κ 56 (Value.bool false) rfl rfl
   have x57 := κA κ 57 (Value.bool false) rfl rfl
   have x72 := κA κ 72 (u72) rfl rfl
   have x73 := κA κ 73 (u73) rfl rfl
   have x74 := κA κ 74 (u74) rfl rfl
   have x75 := κA κ 75 (u75) rfl rfl
   have x76 := κA κ 76 (u76) rfl rfl
   have x77 := κA κ 77 (u77) rfl rfl
   have x78 := κA κ 78 (u78) rfl rfl
   have x79 := κA κ 79 (u79) rfl rfl
   have x80 := κA κ 80 (u80) rfl rfl
   have x81 := κA κ 81 (u81) rfl rfl
   have x82 := κA κ 82 (u82) rfl rfl
   have x83 := κA κ 83 (u83) rfl rfl
   have x84 := κA κ 84 (u84) rfl rfl
   have x85 := κA κ 85 (u85) rfl rfl
   have x86 := κA κ 86 (u86) rfl rfl
   have x87 := κA κ 87 (u87) rfl rfl
   have x88 := κA κ 88 (u88) rfl rfl
   have x89 := κA κ 89 (u89) rfl rfl
   have x90 := κA κ 90 (u90) rfl rfl
   have x91 := κA κ 91 (u91) rfl rfl
   have x92 := κA κ 92 (u92) rfl rfl
   have x93 := κA κ 93 (u93) rfl rfl
   have x94 := κA κ 94 (u94) rfl rfl
   have x95 := κA κ 95 (undef) rfl rfl
   have x96 := κA κ 96 (undef) rfl rfl
   have x97 := κA κ 97 (undef) rfl rfl
   have x98 := κA κ 98 (undef) rfl rfl
   have ea := act_lit hsz hdf
   simp only [getDs] at ea
   rw [x71, x0, x1, x2, x3, x4, x5, x6, x7, x8, x9, x10, x11, x12, x13, x14, x15, x16, x17, x18, x19, x20, x21, x22, x23, x24, x25, x26, x27, x28, x29, x30, x31, x32, x33, x34, x35, x36, x37, x38, x39, x40, x41, x42, x43, x44, x45, x46, x47, x48, x49, x50, x51, x52, x53, x54, x55, x56, x57, x72, x73, x74, x75, x76, x77, x78, x79, x80, x81, x82, x83, x84, x85, x86, x87, x88, x89, x90, x91, x92, x93, x94, x95, x96, x97, x98] at ea
   rw [ea]
   clear ea x71 x0 x1 x2 x3 x4 x5 x6 x7 x8 x9 x10 x11 x12 x13 x14 x15 x16 x17 x18 x19 x20 x21 x22 x23 x24 x25 x26 x27 x28 x29 x30 x31 x32 x33 x34 x35 x36 x37 x38 x39 x40 x41 x42 x43 x44 x45 x46 x47 x48 x49 x50 x51 x52 x53 x54 x55 x56 x57 x72 x73 x74 x75 x76 x77 x78 x79 x80 x81 x82 x83 x84 x85 x86 x87 x88 x89 x90 x91 x92 x93 x94 x95 x96 x97 x98 hPhi κ hdf hsz
   generalize a.tmps.getD 58 undef = u58, a.tmps.getD 59 undef = u59, a.tmps.getD 60 undef = u60, a.tmps.getD 61 undef = u61, a.tmps.getD 62 undef = u62, a.tmps.getD 63 undef = u63, a.tmps.getD 64 undef = u64, a.tmps.getD 65 undef = u65, a.tmps.getD 66 undef = u66, a.tmps.getD 67 undef = u67, a.tmps.getD 68 undef = u68, a.tmps.getD 69 undef = u69, a.tmps.getD 70 undef = u70
   clear a
   clear hpk1 hpk2 m4 m4' m3 e0 e3 d3 y0' y1' y2' y3' y4' y5' y6'
   have B7 := ι (show Below wr.heap.size wr w7 from B6.out.trans (hI.mono GN.out))
   have F7 := ι (F6.out.below hI hXN)
   have BW7 := ι (show Below w.heap.size w w7 from BW.out.trans (B7.out.mono BW.out.size))
   clear hI F6 B6 hXN hGN hgN GN
   cases hr : (pk && decide (x.num ≤ y.num)) with
   | true =>
    have H3 := ι (show lstE d = 8 by
     have e : cutN d.cuts day k x = 8 := by rw [HN1.out, if_pos hr]
     have e2 : cutL d.cuts day 0 d.cuts = 8 := by rw [← HF.out, HD.out, e, if_neg (by decide)]
     rw [HE.out, if_pos (by rw [e2]; decide), e2])
    go_wp2_with fail
    go_ret
    exact ⟨by rw [H3.out]; rfl, BW7.out⟩
   | false =>
   have HN2 := ι (show cutN d.cuts day k x = if q ≠ 0 then q else if (pk && decide (x.i < y.o)) = true then 14 else 0 by rw [HN1.out, if_neg (by rw [hr]; decide)])
   clear hr HN1
   have fq := F7.out.cell
   have hX7 := F7.out.lt
   unfold Ct.cs at fq
   go_wp2_with fail
   refine (HCK.out w7).mono ?_
   rintro e' w8 ⟨rfl, hb⟩
   have B8 := ι (B7.out.trans (hb.mono B7.out.size))
   have F8 := ι (F7.out.ext hb)
   have BW8 := ι (show Below w.heap.size w w8 from BW.out.trans (B8.out.mono BW.out.size))
   have G8 := ι (FR.out.ext B8.out)
   clear hb fq hX7 F7 B7 BW7 HCK
   by_cases hq0' : q ≠ 0
   ·have t0 : (q != 0) = true := by simpa using hq0'
    have H3 := ι (show lstE d = q by
     have e : cutN d.cuts day k x = q := by rw [HN2.out, if_pos hq0']
     have e2 : cutL d.cuts day 0 d.cuts = q := by rw [← HF.out, HD.out, e, if_neg (by exact hq0')]
     rw [HE.out, if_pos (by rw [e2]; exact hq0'), e2])
    go_wp2_with fail
    go_ret
    exact ⟨by rw [H3.out]; rfl, BW8.out⟩
   have hq0 : q = 0 := by omega
   clear hq0'
   have HN3 := ι (show cutN d.cuts day k x = if (pk && decide (x.i < y.o)) = true then 14 else 0 by rw [HN2.out, if_neg (by omega)])
   subst hq0
   clear HN2
   have fq := F8.out.cell
   have hX8 := F8.out.lt
   unfold Ct.cs at fq
   go_wp2_with fail
   clear fq hX8
   obtain ⟨N, hN⟩ : ∃ N, N = w8.heap.size := ⟨_, rfl⟩
   have hXN : X < N := by have := F8.out.lt; omega
   have hGN : G < N := by have := G8.out.lt; omega
   obtain ⟨g3, o3, eg, y0', y1', y2', y3', y4', y5', y6'⟩ := CutsAt.get (HR.out.ext (Flat.stays _) B8.out) HY0.out
   obtain ⟨rfl, rfl⟩ : g2 = g3 ∧ o2 = o3 := by
    injection eg with e
    injection e with e1 e2
    exact ⟨e1, e2⟩
   clear eg
   have hgN : g2 < N := by have h : g2 < w8.heap.size := World.block_lt_of_cell? w8 _ y0'; omega
   have GN := ι (show wr.heap.size ≤ N by have := B8.out.size; omega)
   clear hN
   have e0 : w8.cell? ⟨X, 0, none⟩ = some (.int .i64 x.num) := F8.out.cell 0
   have e3 : w8.cell? ⟨X, 3, none⟩ = some (.int .i64 x.i) := F8.out.cell 3
   have d3 : w8.cell? ⟨G, 3, none⟩ = some (.slice (some ⟨g2, o2, none⟩) d.cuts.length cc) := G8.out.cell 3
   have hpk1 : decide ((0 : Int) < (k : Int)) = pk := by rw [HP.out.1]; simp
   have hpk2 : decide (0 < k) = pk := HP.out.1.symm
   have m4 : (m : Int) < (d.cuts.length : Int) := by have := HP.out.2.2; omega
   have m4' : m < d.cuts.length := HP.out.2.2
   have m3 : pk = true → IntKind.i64.wrap ((k : Int) - 1) = (m : Int) := fun h => by
    have := HP.out.2.1 (of_decide_eq_true (HP.out.1.symm.trans h))
    rw [IntKind.wrap_i64]
    omega
   refine wp_region_spec (by kernel_rfl) (fun w' => Below N w8 w') (PhiL3 X G g2 o2 m k d.cuts.length cc x y pk) 99 rfl (by kernel_rfl) (Below.refl _ _).drew ?hops ?hend
   case hops =>
    refine ⟨?o0, ?o1, ?o2, ?o3, ?o4, ?o5, ?o6, ?o7, ?o8, ?o9, ?o10, ?o11, ?o12, ?o13, ?o14, ?o15, trivial⟩
    case o0 =>
     intro ev w8 hI δ φ
     have a4 : ev 4 = .int .i64 (k : Int) := φ 4 (by kernel_rfl)
     clear δ φ
     try dsimp only
     simp [OpRuns, execOp, evalOf, a4, go_sem]
     exact ⟨hI, rfl⟩
    case o1 =>
     intro ev w8 hI δ φ
     have a78 : ev 78 = .int .i64 (k : Int) := δ 0 78 (by kernel_rfl) rfl
     clear δ φ
     try dsimp only
     simp [OpRuns, execOp, evalOf, a78, go_sem]
     exact ⟨hI, congrArg Value.bool hpk2⟩
    case o2 =>
     intro ev w8 hI δ φ
     have a79 : ev 79 = .bool (pk) := δ 1 79 (by kernel_rfl) rfl
     clear δ φ
     try dsimp only
     simp [OpRuns, execOp, evalOf, a79, go_sem]
     exact ⟨hI, rfl⟩
    case o3 =>
     intro ev w8 hI δ φ
     have ag : ev 80 = .bool pk := δ 2 80 (by kernel_rfl) rfl
     refine γ ag rfl (fun hR => ?_) fun hn d hd => by cases hd; exact ⟨fun hr => absurd hr hn, fun _ => rfl⟩
     clear ag
     have a5 : ev 5 = .pointer (some ⟨X, 0, none⟩) := φ 5 (by kernel_rfl)
     clear δ φ
     try dsimp only
     simp [OpRuns, execOp, evalOf, a5, go_sem]
     exact ⟨hI, ⟨fun _ => rfl, fun h => absurd hR h⟩⟩
    case o4 =>
     intro ev w8 hI δ φ
     have ag : ev 80 = .bool pk := δ 2 80 (by kernel_rfl) rfl
     refine γ ag rfl (fun hR => ?_) fun hn d hd => by cases hd; exact ⟨fun hr => absurd hr hn, fun _ => rfl⟩
     clear ag
     have a81 : ev 81 = .pointer (some ⟨X, 3, none⟩) := (δ 3 81 (by kernel_rfl) rfl).1 hR
     clear δ φ
     try dsimp only
     simp [OpRuns, execOp, evalOf, a81, go_sem]
     exact ⟨hI, ⟨fun _ => rfl, fun h => absurd hR h⟩⟩
    case o5 =>
     intro ev w8 hI δ φ
     have ag : ev 80 = .bool pk := δ 2 80 (by kernel_rfl) rfl
     refine γ ag rfl (fun hR => ?_) fun hn d hd => by cases hd; exact ⟨fun hr => absurd hr hn, fun _ => rfl⟩
     clear ag
     have a82 : ev 82 = .pointer (some ⟨X, 3, none⟩) := (δ 4 82 (by kernel_rfl) rfl).1 hR
     have y0 : w8.cell? ⟨X, 3, none⟩ = some (.int .i64 x.i) := (hI.cell (p := ⟨X, 3, none⟩) hXN).trans e3
     clear δ φ
     try dsimp only
     simp [OpRuns, execOp, evalOf, a82, y0, go_sem]
     exact ⟨hI, ⟨fun _ => rfl, fun h => absurd hR h⟩⟩
    case o6 =>
     intro ev w8 hI δ φ
     have ag : ev 80 = .bool pk := δ 2 80 (by kernel_rfl) rfl
     refine γ ag rfl (fun hR => ?_) fun hn d hd => by cases hd; exact ⟨fun hr => absurd hr hn, fun _ => rfl⟩
     clear ag
     have a1 : ev 1 = .pointer (some ⟨G, 0, none⟩) := φ 1 (by kernel_rfl)
     clear δ φ
     try dsimp only
     simp [OpRuns, execOp, evalOf, a1, go_sem]
     exact ⟨hI, ⟨fun _ => rfl, fun h => absurd hR h⟩⟩
    case o7 =>
     intro ev w8 hI δ φ
     have ag : ev 80 = .bool pk := δ 2 80 (by kernel_rfl) rfl
     refine γ ag rfl (fun hR => ?_) fun hn d hd => by cases hd; exact ⟨fun hr => absurd hr hn, fun _ => rfl⟩
     clear ag
     have a84 : ev 84 = .pointer (some ⟨G, 3, none⟩) := (δ 6 84 (by kernel_rfl) rfl).1 hR
     have y0 : w8.cell? ⟨G, 3, none⟩ = some (.slice (some ⟨g2, o2, none⟩) d.cuts.length cc) := (hI.cell (p := ⟨G, 3, none⟩) hGN).trans d3
     clear δ φ
     try dsimp only
     simp [OpRuns, execOp, evalOf, a84, y0, go_sem]
     exact ⟨hI, ⟨fun _ => rfl, fun h => absurd hR h⟩⟩
    case o8 =>
     intro ev w8 hI δ φ
     have ag : ev 80 = .bool pk := δ 2 80 (by kernel_rfl) rfl
     refine γ ag rfl (fun hR => ?_) fun hn d hd => by cases hd; exact ⟨fun hr => absurd hr hn, fun _ => rfl⟩
     clear ag
     have a4 : ev 4 = .int .i64 (k : Int) := φ 4 (by kernel_rfl)
     clear δ φ
     try dsimp only
     simp [OpRuns, execOp, evalOf, a4, go_sem]
     exact ⟨hI, ⟨fun _ => rfl, fun h => absurd hR h⟩⟩
    case o9 =>
     intro ev w8 hI δ φ
     have ag : ev 80 = .bool pk := δ 2 80 (by kernel_rfl) rfl
     refine γ ag rfl (fun hR => ?_) fun hn d hd => by cases hd; exact ⟨fun hr => absurd hr hn, fun _ => rfl⟩
     clear ag
     have m3' := m3 hR
     have a86 : ev 86 = .int .i64 (k : Int) := (δ 8 86 (by kernel_rfl) rfl).1 hR
     clear δ φ
     try dsimp only
     simp [OpRuns, execOp, evalOf, a86, m3', go_sem]
     exact ⟨hI, ⟨fun _ => rfl, fun h => absurd hR h⟩⟩
    case o10 =>
     intro ev w8 hI δ φ
     have ag : ev 80 = .bool pk := δ 2 80 (by kernel_rfl) rfl
     refine γ ag rfl (fun hR => ?_) fun hn d hd => by cases hd; exact ⟨fun hr => absurd hr hn, fun _ => rfl⟩
     clear ag
     have a85 : ev 85 = .slice (some ⟨g2, o2, none⟩) d.cuts.length cc := (δ 7 85 (by kernel_rfl) rfl).1 hR
     have a87 : ev 87 = .int .i64 (m : Int) := (δ 9 87 (by kernel_rfl) rfl).1 hR
     clear δ φ
     try dsimp only
     simp [OpRuns, execOp, evalOf, a85, a87, m4, m4', go_sem]
     exact ⟨hI, ⟨fun _ => rfl, fun h => absurd hR h⟩⟩
    case o11 =>
     intro ev w8 hI δ φ
     have ag : ev 80 = .bool pk := δ 2 80 (by kernel_rfl) rfl
     refine γ ag rfl (fun hR => ?_) fun hn d hd => by cases hd; exact ⟨fun hr => absurd hr hn, fun _ => rfl⟩
     clear ag
     have a88 : ev 88 = .pointer (some ⟨g2, o2 + m * 7, none⟩) := (δ 10 88 (by kernel_rfl) rfl).1 hR
     clear δ φ
     try dsimp only
     simp [OpRuns, execOp, evalOf, a88, go_sem]
     exact ⟨hI, ⟨fun _ => rfl, fun h => absurd hR h⟩⟩
    case o12 =>
     intro ev w8 hI δ φ
     have ag : ev 80 = .bool pk := δ 2 80 (by kernel_rfl) rfl
     refine γ ag rfl (fun hR => ?_) fun hn d hd => by cases hd; exact ⟨fun hr => absurd hr hn, fun _ => rfl⟩
     clear ag
     have a89 : ev 89 = .pointer (some ⟨g2, o2 + m * 7 + 3, none⟩) := (δ 11 89 (by kernel_rfl) rfl).1 hR
     clear δ φ
     try dsimp only
     simp [OpRuns, execOp, evalOf, a89, go_sem]
     exact ⟨hI, ⟨fun _ => rfl, fun h => absurd hR h⟩⟩
    case o13 =>
     intro ev w8 hI δ φ
     have ag : ev 80 = .bool pk := δ 2 80 (by kernel_rfl) rfl
     refine γ ag rfl (fun hR => ?_) fun hn d hd => by cases hd; exact ⟨fun hr => absurd hr hn, fun _ => rfl⟩
     clear ag
     have a90 : ev 90 = .pointer (some ⟨g2, o2 + m * 7 + 3 + 1, none⟩) := (δ 12 90 (by kernel_rfl) rfl).1 hR
     have y0 : w8.cell? ⟨g2, o2 + m * 7 + 3 + 1, none⟩ = some (.int .i64 y.o) := (hI.cell (p := ⟨g2, o2 + m * 7 + 3 + 1, none⟩) hgN).trans y4'
     clear δ φ
     try dsimp only
     simp [OpRuns, execOp, evalOf, a90, y0, go_sem]
     exact ⟨hI, ⟨fun _ => rfl, fun h => absurd hR h⟩⟩
    case o14 =>
     intro ev w8 hI δ φ
     have ag : ev 80 = .bool pk := δ 2 80 (by kernel_rfl) rfl
     refine γ ag rfl (fun hR => ?_) fun hn d hd => by cases hd; exact ⟨fun hr => absurd hr hn, fun _ => rfl⟩
     clear ag
     have a83 : ev 83 = .int .i64 x.i := (δ 5 83 (by kernel_rfl) rfl).1 hR
     have a91 : ev 91 = .int .i64 y.o := (δ 13 91 (by kernel_rfl) rfl).1 hR
     clear δ φ
     try dsimp only
     simp [OpRuns, execOp, evalOf, a83, a91, go_sem]
     exact ⟨hI, ⟨fun _ => rfl, fun h => absurd hR h⟩⟩
    case o15 =>
    intro ev w8 hI δ φ
    have a80 : ev 80 = .bool (pk) := δ 2 80 (by kernel_rfl) rfl
    have ax : pk = true → ev 92 = .bool (decide (x.i < y.o)) := fun hc => (δ 14 92 (by kernel_rfl) rfl).1 hc
    clear δ φ
    obtain ⟨cc, hcc⟩ : ∃ cc, cc = pk := ⟨_, rfl⟩
    rw [← hcc] at a80
    cases cc with
    | true =>
     have ax := ax hcc.symm
     have hv : (Value.bool (decide (x.i < y.o))) = (Value.bool (pk && (decide (x.i < y.o)))) := by rw [← hcc]; simp
     clear hcc
     try dsimp only
     simp [OpRuns, execOp, evalOf, a80, ax, go_sem]
     exact ⟨hI, hv⟩
    | false =>
     clear ax
     have hv : Value.bool false = (Value.bool (pk && (decide (x.i < y.o)))) := by rw [← hcc]; simp
     clear hcc
     try dsimp only
     simp [OpRuns, execOp, evalOf, a80, go_sem]
     exact ⟨hI, hv⟩
   case hend =>
   intro a w9 hdf hsz hI hPhi κ
   replace hdf : a.defers = [] := hdf
   replace hsz : a.tmps.size = 99 := hsz
   have x93 : a.tmps.getD 93 undef = .bool (pk && (decide (x.i < y.o))) := hPhi 15 93 (by kernel_rfl)
   have x0 := κA κ 0 (Value.agg #[Value.string (sB d.title), Value.int IntKind.u8 d.rate, Value.bool true, Value.slice (some { block := g2, off := o2 }) d.cuts.length cc]) rfl rfl
   have x1 := κA κ 1 (Value.pointer (some { block := G, off := 0 })) rfl rfl
   have x2 := κA κ 2 (u2) rfl rfl
   have x3 := κA κ 3 (Value.int IntKind.i64 day) rfl rfl
   have x4 := κA κ 4 (Value.int IntKind.i64 (↑k : Int)) rfl rfl
   have x5 := κA κ 5 (Value.pointer (some { block := X, off := 0 })) rfl rfl
   have x6 := κA κ 6 (Value.int IntKind.i64 0) rfl rfl
   have x7 := κA κ 7 (Value.bool false) rfl rfl
   have x8 := κA κ 8 (Value.pointer (some { block := G, off := 0 })) rfl rfl
   have x9 := κA κ 9 (Value.string (sB d.title)) rfl rfl
   have x10 := κA κ 10 (Value.bool true) rfl rfl
   have x11 := κA κ 11 (Value.bool false) rfl rfl
   have x12 := κA κ 12 (Value.bool (decide (400 < (↑d.title.length : Int)))) rfl rfl
   have x13 := κA κ 13 (Value.pointer (some { block := G, off := 0 })) rfl rfl
   have x14 := κA κ 14 (Value.string (sB d.title)) rfl rfl
   have x15 := κA κ 15 (Value.int IntKind.i64 (↑d.title.length : Int)) rfl rfl
   have x16 := κA κ 16 (Value.bool (decide (400 < (↑d.title.length : Int)))) rfl rfl
   have x17 := κA κ 17 (Value.bool false) rfl rfl
   have x18 := κA κ 18 (Value.pointer (some { block := G, off := 1 })) rfl rfl
   have x19 := κA κ 19 (Value.int IntKind.u8 d.rate) rfl rfl
   have x20 := κA κ 20 (Value.bool true) rfl rfl
   have x21 := κA κ 21 (Value.bool false) rfl rfl
   have x22 := κA κ 22 (Value.bool false) rfl rfl
   have x23 := κA κ 23 (Value.pointer (some { block := G, off := 2 })) rfl rfl
   have x24 := κA κ 24 (Value.bool true) rfl rfl
   have x25 := κA κ 25 (Value.bool true) rfl rfl
   have x26 := κA κ 26 (Value.pointer (some { block := G, off := 1 })) rfl rfl
   have x27 := κA κ 27 (Value.int IntKind.u8 d.rate) rfl rfl
   have x28 := κA κ 28 (Value.bool true) rfl rfl
   have x29 := κA κ 29 (Value.bool false) rfl rfl
   have x30 := κA κ 30 (Value.bool false) rfl rfl
   have x31 := κA κ 31 (Value.bool false) rfl rfl
   have x32 := κA κ 32 (Value.bool (decide (64 < (↑d.cuts.length : Int)))) rfl rfl
   have x33 := κA κ 33 (Value.pointer (some { block := G, off := 3 })) rfl rfl
   have x34 := κA κ 34 (Value.slice (some { block := g2, off := o2 }) d.cuts.length cc) rfl rfl
   have x35 := κA κ 35 (Value.int IntKind.i64 (↑d.cuts.length : Int)) rfl rfl
   have x36 := κA κ 36 (Value.bool (decide (64 < (↑d.cuts.length : Int)))) rfl rfl
   have x37 := κA κ 37 (Value.pointer (some { block := G, off := 1 })) rfl rfl
   have x38 := κA κ 38 (Value.int IntKind.u8 d.rate) rfl rfl
   have x39 := κA κ 39 (Value.pointer (some { block := G, off := 2 })) rfl rfl
   have x40 := κA κ 40 (Value.bool true) rfl rfl
   have x41 := κA κ 41 (Value.int IntKind.i64 day) rfl rfl
   have x42 := κA κ 42 (Value.pointer (some { block := G, off := 3 })) rfl rfl
   have x43 := κA κ 43 (Value.slice (some { block := g2, off := o2 }) d.cuts.length cc) rfl rfl
   have x44 := κA κ 44 (Value.int IntKind.i64 (↑d.cuts.length : Int)) rfl rfl
   have x45 := κA κ 45 (Value.int IntKind.i64 (↑k : Int)) rfl rfl
   have x46 := κA κ 46 (Value.bool true) rfl rfl
   have x47 := κA κ 47 (Value.int IntKind.i64 (↑k : Int)) rfl rfl
   have x48 := κA κ 48 (Value.pointer (some { block := g2, off := o2 + k * 7 })) rfl rfl
   have x49 := κA κ 49 (Value.agg #[Value.int IntKind.i64 x.num, Value.string (sB x.reel), Value.int IntKind.i64 x.src, Value.int IntKind.i64 x.i, Value.int IntKind.i64 x.o, Value.int IntKind.i64 x.sn, Value.int IntKind.i64 x.sd]) rfl rfl
   have x50 := κA κ 50 (Value.pointer (some { block := X, off := 0 })) rfl rfl
   have x51 := κA κ 51 (Value.int IntKind.i64 x.num) rfl rfl
   have x52 := κA κ 52 (Value.bool false) rfl rfl
   have x53 := κA κ 53 (Value.bool false) rfl rfl
   have x54 := κA κ 54 (Value.pointer (some { block := X, off := 0 })) rfl rfl
   have x55 := κA κ 55 (Value.int IntKind.i64 x.num) rfl rfl
   have x56 := κA κ 56 (Value.bool false) rfl rfl
   have x57 := κA κ 57 (Value.bool false) rfl rfl
   have x58 := κA κ 58 (u58) rfl rfl
   have x59 := κA κ 59 (u59) rfl rfl
   have x60 := κA κ 60 (u60) rfl rfl
   have x61 := κA κ 61 (u61) rfl rfl
   have x62 := κA κ 62 (u62) rfl rfl
   have x63 := κA κ 63 (u63) rfl rfl
   have x64 := κA κ 64 (u64) rfl rfl
   have x65 := κA κ 65 (u65) rfl rfl
   have x66 := κA κ 66 (u66) rfl rfl
   have x67 := κA κ 67 (u67) rfl rfl
   have x68 := κA κ 68 (u68) rfl rfl
   have x69 := κA κ 69 (u69) rfl rfl
   have x70 := κA κ 70 (u70) rfl rfl
   have x71 := κA κ 71 (Value.bool false) rfl rfl
   have x72 := κA κ 72 (Value.agg #[Value.int IntKind.i64 x.num, Value.string (sB x.reel), Value.int IntKind.i64 x.src, Value.int IntKind.i64 x.i, Value.int IntKind.i64 x.o, Value.int IntKind.i64 x.sn, Value.int IntKind.i64 x.sd]) rfl rfl
   have x73 := κA κ 73 (Value.int IntKind.i64 day) rfl rfl
   have x74 := κA κ 74 (Value.int IntKind.i64 0) rfl rfl
   have x75 := κA κ 75 (Value.int IntKind.i64 0) rfl rfl
   have x76 := κA κ 76 (Value.bool false) rfl rfl
   have x77 := κA κ 77 (u77) rfl rfl
   have x94 := κA κ 94 (u94) rfl rfl
   have x95 := κA κ 95 (undef) rfl rfl
   have x96 := κA κ 96 (undef) rfl rfl
   have x97 := κA κ 97 (undef) rfl rfl
   have x98 := κA κ 98 (undef) rfl rfl
   have ea := act_lit hsz hdf
   simp only [getDs] at ea
   rw [x93, x0, x1, x2, x3, x4, x5, x6, x7, x8, x9, x10, x11, x12, x13, x14, x15, x16, x17, x18, x19, x20, x21, x22, x23, x24, x25, x26, x27, x28, x29, x30, x31, x32, x33, x34, x35, x36, x37, x38, x39, x40, x41, x42, x43, x44, x45, x46, x47, x48, x49, x50, x51, x52, x53, x54, x55, x56, x57, x58, x59, x60, x61, x62, x63, x64, x65, x66, x67, x68, x69, x70, x71, x72, x73, x74, x75, x76, x77, x94, x95, x96, x97, x98] at ea
   rw [ea]
   clear ea x93 x0 x1 x2 x3 x4 x5 x6 x7 x8 x9 x10 x11 x12 x13 x14 x15 x16 x17 x18 x19 x20 x21 x22 x23 x24 x25 x26 x27 x28 x29 x30 x31 x32 x33 x34 x35 x36 x37 x38 x39 x40 x41 x42 x43 x44 x45 x46 x47 x48 x49 x50 x51 x52 x53 x54 x55 x56 x57 x58 x59 x60 x61 x62 x63 x64 x65 x66 x67 x68 x69 x70 x71 x72 x73 x74 x75 x76 x77 x94 x95 x96 x97 x98 hPhi κ hdf hsz
   generalize a.tmps.getD 78 undef = u78, a.tmps.getD 79 undef = u79, a.tmps.getD 80 undef = u80, a.tmps.getD 81 undef = u81, a.tmps.getD 82 undef = u82, a.tmps.getD 83 undef = u83, a.tmps.getD 84 undef = u84, a.tmps.getD 85 undef = u85, a.tmps.getD 86 undef = u86, a.tmps.getD 87 undef = u87, a.tmps.getD 88 undef = u88, a.tmps.getD 89 undef = u89, a.tmps.getD 90 undef = u90, a.tmps.getD 91 undef = u91, a.tmps.getD 92 undef = u92
   clear a
   clear hpk1 hpk2 m4 m4' m3 e0 e3 d3 y0' y1' y2' y3' y4' y5' y6'
   have B9 := ι (show Below wr.heap.size wr w9 from B8.out.trans (hI.mono GN.out))
   have BW9 := ι (show Below w.heap.size w w9 from BW.out.trans (B9.out.mono BW.out.size))
   clear hI F8 B8 hXN hGN hgN GN
   cases hr : (pk && decide (x.i < y.o)) with
   | true =>
    have H3 := ι (show lstE d = 14 by
     have e : cutN d.cuts day k x = 14 := by rw [HN3.out, if_pos hr]
     have e2 : cutL d.cuts day 0 d.cuts = 14 := by rw [← HF.out, HD.out, e, if_neg (by decide)]
     rw [HE.out, if_pos (by rw [e2]; decide), e2])
    go_wp2_with fail
    go_ret
    exact ⟨by rw [H3.out]; rfl, BW9.out⟩
   | false =>
   have e0' : cutN d.cuts day k x = 0 := by rw [HN3.out, if_neg (by rw [hr]; decide)]
   have H3 := ι (show cutL d.cuts day (k + 1) (d.cuts.drop (k + 1)) = cutL d.cuts day 0 d.cuts by rw [← HF.out, HD.out, if_pos e0'])
   have BM := ι (show Below w4.heap.size w4 w9 from BR.out.trans (B9.out.mono BR.out.size))
   clear e0' HN3 HF HD hr
   go_wp2_with fail
   go_roundw
   case rel => exact ⟨k + 1, by have := HI.out.2; omega, by go_num, H3, BM⟩
   case measure => simp [intOf]; have := HI.out.2; omega
  obtain rfl : k = d.cuts.length := by omega
  have e0 : cutL d.cuts day 0 d.cuts = 0 := by rw [← HF.out, List.drop_length]; rfl
  have HE5 := ι (show lstE d = if 16 < nr then 9 else 0 by rw [HE.out, if_neg (by rw [e0]; simp)])
  have fq := FR.out.cell
  have hGr : G < wr.heap.size := FR.out.lt
  unfold Lst.cs at fq
  rw [hdd] at fq
  clear hlt HF e0 HE
  go_wp2_with fail
  refine (HRL.out wr BW.out).mono ?_
  rintro e' w9 ⟨⟨A9, c9, rfl⟩, hb⟩
  have B9 := ι (BW.out.trans (hb.mono BW.out.size))
  clear fq hb
  by_cases h9 : 16 < nr
  ·have H3 := ι (show lstE d = 9 by rw [HE5.out, if_pos h9])
   have t0 : (16 : Int) < (nr : Int) := by omega
   go_wp2_with fail
   go_ret
   exact ⟨by rw [H3.out]; rfl, B9.out⟩
  have H3 := ι (show lstE d = 0 by rw [HE5.out, if_neg h9])
  have t0 : ¬ (16 : Int) < (nr : Int) := by omega
  go_wp2_with fail
  go_ret
  exact ⟨by rw [H3.out]; rfl, B9.out⟩
 | false =>
  rw [hdd] at fq HE1 HDY HRL
  have w3e : ∃ W, W = w2' := ⟨_, rfl⟩
  obtain ⟨w3, hw3⟩ := w3e
  subst hw3
  have HE2 := ι (show lstE d = if 64 < d.cuts.length then 9 else if cutL d.cuts day 0 d.cuts ≠ 0 then cutL d.cuts day 0 d.cuts else if 16 < nr then 9 else 0 by rw [HE1.out, if_neg (by simp)])
  clear HE1 HRC
  by_cases h5 : 64 < d.cuts.length
  ·have H3 := ι (show lstE d = 9 by rw [HE2.out, if_pos h5])
   have t0 : (64 : Int) < (d.cuts.length : Int) := by omega
   clear h5
   go_wp2_with fail
   go_ret
   exact ⟨by rw [H3.out]; rfl, B3.out⟩
  have HE := ι (show lstE d = if cutL d.cuts day 0 d.cuts ≠ 0 then cutL d.cuts day 0 d.cuts else if 16 < nr then 9 else 0 by rw [HE2.out, if_neg h5])
  have t0 : ¬ (64 : Int) < (d.cuts.length : Int) := by omega
  clear HE2
  go_wp2_with fail
  clear t0
  refine (HDY.out w3).mono ?_
  rintro e' w4 ⟨rfl, hb⟩
  have B4 := ι (B3.out.trans (hb.mono B3.out.size))
  have F4 := ι (F3.out.ext hb)
  clear hb F3 B3 HDY fq hG3
  have fq := F4.out.cell
  have hG4 := F4.out.lt
  unfold Lst.cs at fq
  rw [hdd] at fq
  go_wp2_with fail
  clear fq
  go_loopw [45] (fun i wr => ∃ k : Nat, k ≤ d.cuts.length ∧ i = .int .i64 k ∧ Hid (cutL d.cuts day k (d.cuts.drop k) = cutL d.cuts day 0 d.cuts) ∧ Hid (Below w4.heap.size w4 wr)) (fun i _ => d.cuts.length - (intOf i).toNat)
  case atStart => exact ⟨0, Nat.zero_le _, rfl, ι rfl, ι (Below.refl _ _)⟩
  case round =>
  obtain ⟨k, hk, rfl, HF, BR⟩ := hrel
  have BW := ι (show Below w.heap.size w wr from B4.out.trans (BR.out.mono B4.out.size))
  have FR := ι (F4.out.below BR.out hG4)
  by_cases hlt : k < d.cuts.length
  ·have hlt2 : (k : Int) < (d.cuts.length : Int) := by omega
   obtain ⟨x, hx⟩ : ∃ x, d.cuts[k]? = some x := ⟨_, List.getElem?_eq_getElem hlt⟩
   have HR := ι (HDO.out.ext (Flat.stays _) BW.out)
   have HD := ι (cutL_drop (day := day) hx)
   obtain ⟨g, o, rfl, p0, p1, p2, p3, p4, p5, p6⟩ := CutsAt.get HR.out hx
   obtain ⟨m, y, hmk, hy⟩ : ∃ m y, (0 < k → m + 1 = k) ∧ d.cuts[m]? = some y := by
    by_cases h0 : 0 < k
    ·exact ⟨k - 1, _, fun _ => by omega, List.getElem?_eq_getElem (by omega)⟩
    exact ⟨k, _, fun h => absurd h h0, hx⟩
   have HY0 := ι hy
   have hml : m < d.cuts.length := (List.getElem?_eq_some_iff.1 hy).1
   have HOX := ι (HO.out.cuts x (List.mem_of_getElem? hx))
   have hgr : g < wr.heap.size := World.block_lt_of_cell? wr _ p0
   obtain ⟨pk, hpk⟩ : ∃ b, b = decide (0 < k) := ⟨_, rfl⟩
   obtain ⟨q, hq⟩ : ∃ q, q = cutE x day := ⟨_, rfl⟩
   have HN := ι (show cutN d.cuts day k x = if x.num < 1 ∨ 999 < x.num then 2 else if (pk && decide (x.num ≤ y.num)) = true then 8 else if q ≠ 0 then q else if (pk && decide (x.i < y.o)) = true then 14 else 0 by
    have e : (match prv d.cuts k with | some y => decide (x.num ≤ y.num) | none => false) = (pk && decide (x.num ≤ y.num)) ∧ (match prv d.cuts k with | some y => decide (x.i < y.o) | none => false) = (pk && decide (x.i < y.o)) := by
     by_cases h0 : 0 < k
     ·have e : prv d.cuts k = some y := by
       unfold prv
       rw [if_neg (by omega), show k - 1 = m by have := hmk h0; omega]
       exact hy
      rw [e, hpk, show decide (0 < k) = true by simpa using h0, Bool.true_and, Bool.true_and]
      exact ⟨rfl, rfl⟩
     have e : prv d.cuts k = none := by
      unfold prv
      rw [if_pos (by omega)]
     rw [e, hpk, show decide (0 < k) = false by simpa using h0, Bool.false_and, Bool.false_and]
     exact ⟨rfl, rfl⟩
    unfold cutN
    rw [e.1, e.2, ← hq])
   have HP := ι (And.intro hpk (And.intro hmk hml))
   have HCK := ι (show ∀ W, Calls Tryz.prog 67 #[.agg #[.int .i64 x.num, .string (sB x.reel), .int .i64 x.src, .int .i64 x.i, .int .i64 x.o, .int .i64 x.sn, .int .i64 x.sd], .int .i64 day] W fun e' w' => e' = .returned (.int .i64 q) ∧ Below W.heap.size W w' from fun W => by
    rw [hq]
    exact checkCut_any x day W HOX.out HDAY.out)
   have HI := ι (And.intro hk hlt)
   clear hx hy hpk hq hmk hml hk
   have fq := FR.out.cell
   have hGr : G < wr.heap.size := FR.out.lt
   unfold Lst.cs at fq
   rw [hdd] at fq
   by_cases hn1 : x.num < 1
   ·have HN0 := ι (show cutN d.cuts day k x = 2 by rw [HN.out, if_pos (.inl hn1)])
    have H3 := ι (show lstE d = 2 by
     have e : cutN d.cuts day k x = 2 := by rw [HN0.out]
     have e2 : cutL d.cuts day 0 d.cuts = 2 := by rw [← HF.out, HD.out, e, if_neg (by decide)]
     rw [HE.out, if_pos (by rw [e2]; decide), e2])
    go_wp2_with fail
    go_ret
    exact ⟨by rw [H3.out]; rfl, ((BW.out.alloc BW.out.size _))⟩
   by_cases hn2 : 999 < x.num
   ·have HN0 := ι (show cutN d.cuts day k x = 2 by rw [HN.out, if_pos (.inr hn2)])
    have H3 := ι (show lstE d = 2 by
     have e : cutN d.cuts day k x = 2 := by rw [HN0.out]
     have e2 : cutL d.cuts day 0 d.cuts = 2 := by rw [← HF.out, HD.out, e, if_neg (by decide)]
     rw [HE.out, if_pos (by rw [e2]; decide), e2])
    go_wp2_with fail
    go_ret
    exact ⟨by rw [H3.out]; rfl, ((BW.out.alloc BW.out.size _))⟩
   have HN1 := ι (show cutN d.cuts day k x = if (pk && decide (x.num ≤ y.num)) = true then 8 else if q ≠ 0 then q else if (pk && decide (x.i < y.o)) = true then 14 else 0 by rw [HN.out, if_neg (by omega)])
   clear HN
   go_wp2_with fail
   clear fq hn1 hn2
   generalize hw5 : World.alloc _ _ = w5
   obtain ⟨X, hX⟩ : ∃ X, X = wr.heap.size := ⟨_, rfl⟩
   rw [← hX]
   have F6 := ι (show Held w5 X x.cs by subst hw5; exact Held.new hX)
   have B6 := ι (show Below wr.heap.size wr w5 by subst hw5; exact Below.more' _ _)
   have G6 := ι (FR.out.ext B6.out)
   clear hw5 hX p0 p1 p2 p3 p4 p5 p6
   obtain ⟨N, hN⟩ : ∃ N, N = w5.heap.size := ⟨_, rfl⟩
   have hXN : X < N := by have := F6.out.lt; omega
   have hGN : G < N := by have := G6.out.lt; omega
   obtain ⟨g2, o2, eg, y0', y1', y2', y3', y4', y5', y6'⟩ := CutsAt.get (HR.out.ext (Flat.stays _) B6.out) HY0.out
   obtain ⟨rfl, rfl⟩ : g2 = g ∧ o2 = o := by
    injection eg with e
    injection e with e1 e2
    exact ⟨e1.symm, e2.symm⟩
   clear eg
   have hgN : g2 < N := by have h : g2 < w5.heap.size := World.block_lt_of_cell? w5 _ y0'; omega
   have GN := ι (show wr.heap.size ≤ N by have := B6.out.size; omega)
   clear hN
   have e0 : w5.cell? ⟨X, 0, none⟩ = some (.int .i64 x.num) := F6.out.cell 0
   have e3 : w5.cell? ⟨X, 3, none⟩ = some (.int .i64 x.i) := F6.out.cell 3
   have d3 : w5.cell? ⟨G, 3, none⟩ = some (.slice (some ⟨g2, o2, none⟩) d.cuts.length cc) := G6.out.cell 3
   have hpk1 : decide ((0 : Int) < (k : Int)) = pk := by rw [HP.out.1]; simp
   have hpk2 : decide (0 < k) = pk := HP.out.1.symm
   have m4 : (m : Int) < (d.cuts.length : Int) := by have := HP.out.2.2; omega
   have m4' : m < d.cuts.length := HP.out.2.2
   have m3 : pk = true → IntKind.i64.wrap ((k : Int) - 1) = (m : Int) := fun h => by
    have := HP.out.2.1 (of_decide_eq_true (HP.out.1.symm.trans h))
    rw [IntKind.wrap_i64]
    omega
   refine wp_region_spec (by kernel_rfl) (fun w' => Below N w5 w') (PhiL2 X G g2 o2 m k d.cuts.length cc x y pk) 99 rfl (by kernel_rfl) (Below.refl _ _).drew ?hops ?hend
   case hops =>
    refine ⟨?o0, ?o1, ?o2, ?o3, ?o4, ?o5, ?o6, ?o7, ?o8, ?o9, ?o10, ?o11, ?o12, ?o13, trivial⟩
    case o0 =>
     intro ev w8 hI δ φ
     have a4 : ev 4 = .int .i64 (k : Int) := φ 4 (by kernel_rfl)
     clear δ φ
     try dsimp only
     simp [OpRuns, execOp, evalOf, a4, go_sem]
     exact ⟨hI, rfl⟩
    case o1 =>
     intro ev w8 hI δ φ
     have a58 : ev 58 = .int .i64 (k : Int) := δ 0 58 (by kernel_rfl) rfl
     clear δ φ
     try dsimp only
     simp [OpRuns, execOp, evalOf, a58, go_sem]
     exact ⟨hI, congrArg Value.bool hpk2⟩
    case o2 =>
     intro ev w8 hI δ φ
     have a59 : ev 59 = .bool (pk) := δ 1 59 (by kernel_rfl) rfl
     clear δ φ
     try dsimp only
     simp [OpRuns, execOp, evalOf, a59, go_sem]
     exact ⟨hI, rfl⟩
    case o3 =>
     intro ev w8 hI δ φ
     have ag : ev 60 = .bool pk := δ 2 60 (by kernel_rfl) rfl
     refine γ ag rfl (fun hR => ?_) fun hn d hd => by cases hd; exact ⟨fun hr => absurd hr hn, fun _ => rfl⟩
     clear ag
     have a5 : ev 5 = .pointer (some ⟨X, 0, none⟩) := φ 5 (by kernel_rfl)
     clear δ φ
     try dsimp only
     simp [OpRuns, execOp, evalOf, a5, go_sem]
     exact ⟨hI, ⟨fun _ => rfl, fun h => absurd hR h⟩⟩
    case o4 =>
     intro ev w8 hI δ φ
     have ag : ev 60 = .bool pk := δ 2 60 (by kernel_rfl) rfl
     refine γ ag rfl (fun hR => ?_) fun hn d hd => by cases hd; exact ⟨fun hr => absurd hr hn, fun _ => rfl⟩
     clear ag
     have a61 : ev 61 = .pointer (some ⟨X, 0, none⟩) := (δ 3 61 (by kernel_rfl) rfl).1 hR
     have y0 : w8.cell? ⟨X, 0, none⟩ = some (.int .i64 x.num) := (hI.cell (p := ⟨X, 0, none⟩) hXN).trans e0
     clear δ φ
     try dsimp only
     simp [OpRuns, execOp, evalOf, a61, y0, go_sem]
     exact ⟨hI, ⟨fun _ => rfl, fun h => absurd hR h⟩⟩
    case o5 =>
     intro ev w8 hI δ φ
     have ag : ev 60 = .bool pk := δ 2 60 (by kernel_rfl) rfl
     refine γ ag rfl (fun hR => ?_) fun hn d hd => by cases hd; exact ⟨fun hr => absurd hr hn, fun _ => rfl⟩
     clear ag
     have a1 : ev 1 = .pointer (some ⟨G, 0, none⟩) := φ 1 (by kernel_rfl)
     clear δ φ
     try dsimp only
     simp [OpRuns, execOp, evalOf, a1, go_sem]
     exact ⟨hI, ⟨fun _ => rfl, fun h => absurd hR h⟩⟩
    case o6 =>
     intro ev w8 hI δ φ
     have ag : ev 60 = .bool pk := δ 2 60 (by kernel_rfl) rfl
     refine γ ag rfl (fun hR => ?_) fun hn d hd => by cases hd; exact ⟨fun hr => absurd hr hn, fun _ => rfl⟩
     clear ag
     have a63 : ev 63 = .pointer (some ⟨G, 3, none⟩) := (δ 5 63 (by kernel_rfl) rfl).1 hR
     have y0 : w8.cell? ⟨G, 3, none⟩ = some (.slice (some ⟨g2, o2, none⟩) d.cuts.length cc) := (hI.cell (p := ⟨G, 3, none⟩) hGN).trans d3
     clear δ φ
     try dsimp only
     simp [OpRuns, execOp, evalOf, a63, y0, go_sem]
     exact ⟨hI, ⟨fun _ => rfl, fun h => absurd hR h⟩⟩
    case o7 =>
     intro ev w8 hI δ φ
     have ag : ev 60 = .bool pk := δ 2 60 (by kernel_rfl) rfl
     refine γ ag rfl (fun hR => ?_) fun hn d hd => by cases hd; exact ⟨fun hr => absurd hr hn, fun _ => rfl⟩
     clear ag
     have a4 : ev 4 = .int .i64 (k : Int) := φ 4 (by kernel_rfl)
     clear δ φ
     try dsimp only
     simp [OpRuns, execOp, evalOf, a4, go_sem]
     exact ⟨hI, ⟨fun _ => rfl, fun h => absurd hR h⟩⟩
    case o8 =>
     intro ev w8 hI δ φ
     have ag : ev 60 = .bool pk := δ 2 60 (by kernel_rfl) rfl
     refine γ ag rfl (fun hR => ?_) fun hn d hd => by cases hd; exact ⟨fun hr => absurd hr hn, fun _ => rfl⟩
     clear ag
     have m3' := m3 hR
     have a65 : ev 65 = .int .i64 (k : Int) := (δ 7 65 (by kernel_rfl) rfl).1 hR
     clear δ φ
     try dsimp only
     simp [OpRuns, execOp, evalOf, a65, m3', go_sem]
     exact ⟨hI, ⟨fun _ => rfl, fun h => absurd hR h⟩⟩
    case o9 =>
     intro ev w8 hI δ φ
     have ag : ev 60 = .bool pk := δ 2 60 (by kernel_rfl) rfl
     refine γ ag rfl (fun hR => ?_) fun hn d hd => by cases hd; exact ⟨fun hr => absurd hr hn, fun _ => rfl⟩
     clear ag
     have a64 : ev 64 = .slice (some ⟨g2, o2, none⟩) d.cuts.length cc := (δ 6 64 (by kernel_rfl) rfl).1 hR
     have a66 : ev 66 = .int .i64 (m : Int) := (δ 8 66 (by kernel_rfl) rfl).1 hR
     clear δ φ
     try dsimp only
     simp [OpRuns, execOp, evalOf, a64, a66, m4, m4', go_sem]
     exact ⟨hI, ⟨fun _ => rfl, fun h => absurd hR h⟩⟩
    case o10 =>
     intro ev w8 hI δ φ
     have ag : ev 60 = .bool pk := δ 2 60 (by kernel_rfl) rfl
     refine γ ag rfl (fun hR => ?_) fun hn d hd => by cases hd; exact ⟨fun hr => absurd hr hn, fun _ => rfl⟩
     clear ag
     have a67 : ev 67 = .pointer (some ⟨g2, o2 + m * 7, none⟩) := (δ 9 67 (by kernel_rfl) rfl).1 hR
     clear δ φ
     try dsimp only
     simp [OpRuns, execOp, evalOf, a67, go_sem]
     exact ⟨hI, ⟨fun _ => rfl, fun h => absurd hR h⟩⟩
    case o11 =>
     intro ev w8 hI δ φ
     have ag : ev 60 = .bool pk := δ 2 60 (by kernel_rfl) rfl
     refine γ ag rfl (fun hR => ?_) fun hn d hd => by cases hd; exact ⟨fun hr => absurd hr hn, fun _ => rfl⟩
     clear ag
     have a68 : ev 68 = .pointer (some ⟨g2, o2 + m * 7, none⟩) := (δ 10 68 (by kernel_rfl) rfl).1 hR
     have y0 : w8.cell? ⟨g2, o2 + m * 7, none⟩ = some (.int .i64 y.num) := (hI.cell (p := ⟨g2, o2 + m * 7, none⟩) hgN).trans y0'
     clear δ φ
     try dsimp only
     simp [OpRuns, execOp, evalOf, a68, y0, go_sem]
     exact ⟨hI, ⟨fun _ => rfl, fun h => absurd hR h⟩⟩
    case o12 =>
     intro ev w8 hI δ φ
     have ag : ev 60 = .bool pk := δ 2 60 (by kernel_rfl) rfl
     refine γ ag rfl (fun hR => ?_) fun hn d hd => by cases hd; exact ⟨fun hr => absurd hr hn, fun _ => rfl⟩
     clear ag
     have a62 : ev 62 = .int .i64 x.num := (δ 4 62 (by kernel_rfl) rfl).1 hR
     have a69 : ev 69 = .int .i64 y.num := (δ 11 69 (by kernel_rfl) rfl).1 hR
     clear δ φ
     try dsimp only
     simp [OpRuns, execOp, evalOf, a62, a69, go_sem]
     exact ⟨hI, ⟨fun _ => rfl, fun h => absurd hR h⟩⟩
    case o13 =>
    intro ev w8 hI δ φ
    have a60 : ev 60 = .bool (pk) := δ 2 60 (by kernel_rfl) rfl
    have ax : pk = true → ev 70 = .bool (decide (x.num ≤ y.num)) := fun hc => (δ 12 70 (by kernel_rfl) rfl).1 hc
    clear δ φ
    obtain ⟨cc, hcc⟩ : ∃ cc, cc = pk := ⟨_, rfl⟩
    rw [← hcc] at a60
    cases cc with
    | true =>
     have ax := ax hcc.symm
     have hv : (Value.bool (decide (x.num ≤ y.num))) = (Value.bool (pk && (decide (x.num ≤ y.num)))) := by rw [← hcc]; simp
     clear hcc
     try dsimp only
     simp [OpRuns, execOp, evalOf, a60, ax, go_sem]
     exact ⟨hI, hv⟩
    | false =>
     clear ax
     have hv : Value.bool false = (Value.bool (pk && (decide (x.num ≤ y.num)))) := by rw [← hcc]; simp
     clear hcc
     try dsimp only
     simp [OpRuns, execOp, evalOf, a60, go_sem]
     exact ⟨hI, hv⟩
   case hend =>
   intro a w7 hdf hsz hI hPhi κ
   replace hdf : a.defers = [] := hdf
   replace hsz : a.tmps.size = 99 := hsz
   have x71 : a.tmps.getD 71 undef = .bool (pk && (decide (x.num ≤ y.num))) := hPhi 13 71 (by kernel_rfl)
   have x0 := κA κ 0 (Value.agg #[Value.string (sB d.title), Value.int IntKind.u8 d.rate, Value.bool false, Value.slice (some { block := g2, off := o2 }) d.cuts.length cc]) rfl rfl
   have x1 := κA κ 1 (Value.pointer (some { block := G, off := 0 })) rfl rfl
   have x2 := κA κ 2 (u2) rfl rfl
   have x3 := κA κ 3 (Value.int IntKind.i64 day) rfl rfl
   have x4 := κA κ 4 (Value.int IntKind.i64 (↑k : Int)) rfl rfl
   have x5 := κA κ 5 (Value.pointer (some { block := X, off := 0 })) rfl rfl
   have x6 := κA κ 6 (u6) rfl rfl
   have x7 := κA κ 7 (Value.bool false) rfl rfl
   have x8 := κA κ 8 (Value.pointer (some { block := G, off := 0 })) rfl rfl
   have x9 := κA κ 9 (Value.string (sB d.title)) rfl rfl
   have x10 := κA κ 10 (Value.bool true) rfl rfl
   have x11 := κA κ 11 (Value.bool false) rfl rfl
   have x12 := κA κ 12 (Value.bool (decide (400 < (↑d.title.length : Int)))) rfl rfl
   have x13 := κA κ 13 (Value.pointer (some { block := G, off := 0 })) rfl rfl
   have x14 := κA κ 14 (Value.string (sB d.title)) rfl rfl
   have x15 := κA κ 15 (Value.int IntKind.i64 (↑d.title.length : Int)) rfl rfl
   have x16 := κA κ 16 (Value.bool (decide (400 < (↑d.title.length : Int)))) rfl rfl
   have x17 := κA κ 17 (Value.bool false) rfl rfl
   have x18 := κA κ 18 (Value.pointer (some { block := G, off := 1 })) rfl rfl
   have x19 := κA κ 19 (Value.int IntKind.u8 d.rate) rfl rfl
   have x20 := κA κ 20 (Value.bool true) rfl rfl
   have x21 := κA κ 21 (Value.bool false) rfl rfl
   have x22 := κA κ 22 (Value.bool false) rfl rfl
   have x23 := κA κ 23 (Value.pointer (some { block := G, off := 2 })) rfl rfl
   have x24 := κA κ 24 (Value.bool false) rfl rfl
   have x25 := κA κ 25 (Value.bool false) rfl rfl
   have x26 := κA κ 26 (undef) rfl rfl
   have x27 := κA κ 27 (undef) rfl rfl
   have x28 := κA κ 28 (undef) rfl rfl
   have x29 := κA κ 29 (undef) rfl rfl
   have x30 := κA κ 30 (Value.bool false) rfl rfl
   have x31 := κA κ 31 (Value.bool false) rfl rfl
   have x32 := κA κ 32 (Value.bool (decide (64 < (↑d.cuts.length : Int)))) rfl rfl
   have x33 := κA κ 33 (Value.pointer (some { block := G, off := 3 })) rfl rfl
   have x34 := κA κ 34 (Value.slice (some { block := g2, off := o2 }) d.cuts.length cc) rfl rfl
   have x35 := κA κ 35 (Value.int IntKind.i64 (↑d.cuts.length : Int)) rfl rfl
   have x36 := κA κ 36 (Value.bool (decide (64 < (↑d.cuts.length : Int)))) rfl rfl
   have x37 := κA κ 37 (Value.pointer (some { block := G, off := 1 })) rfl rfl
   have x38 := κA κ 38 (Value.int IntKind.u8 d.rate) rfl rfl
   have x39 := κA κ 39 (Value.pointer (some { block := G, off := 2 })) rfl rfl
   have x40 := κA κ 40 (Value.bool false) rfl rfl
   have x41 := κA κ 41 (Value.int IntKind.i64 day) rfl rfl
   have x42 := κA κ 42 (Value.pointer (some { block := G, off := 3 })) rfl rfl
   have x43 := κA κ 43 (Value.slice (some { block := g2, off := o2 }) d.cuts.length cc) rfl rfl
   have x44 := κA κ 44 (Value.int IntKind.i64 (↑d.cuts.length : Int)) rfl rfl
   have x45 := κA κ 45 (Value.int IntKind.i64 (↑k : Int)) rfl rfl
   have x46 := κA κ 46 (Value.bool true) rfl rfl
   have x47 := κA κ 47 (Value.int IntKind.i64 (↑k : Int)) rfl rfl
   have x48 := κA κ 48 (Value.pointer (some { block := g2, off := o2 + k * 7 })) rfl rfl
   have x49 := κA κ 49 (Value.agg #[Value.int IntKind.i64 x.num, Value.string (sB x.reel), Value.int IntKind.i64 x.src, Value.int IntKind.i64 x.i, Value.int IntKind.i64 x.o, Value.int IntKind.i64 x.sn, Value.int IntKind.i64 x.sd]) rfl rfl
   have x50 := κA κ 50 (Value.pointer (some { block := X, off := 0 })) rfl rfl
   have x51 := κA κ 51 (Value.int IntKind.i64 x.num) rfl rfl
   have x52 := κA κ 52 (Value.bool false) rfl rfl
   have x53 := κA κ 53 (Value.bool false) rfl rfl
   have x54 := κA κ 54 (Value.pointer (some { block := X, off := 0 })) rfl rfl
   have x55 := κA κ 55 (Value.int IntKind.i64 x.num) rfl rfl
   have x56 := κA κ 56 (Value.bool false) rfl rfl
   have x57 := κA κ 57 (Value.bool false) rfl rfl
   have x72 := κA κ 72 (u72) rfl rfl
   have x73 := κA κ 73 (u73) rfl rfl
   have x74 := κA κ 74 (u74) rfl rfl
   have x75 := κA κ 75 (u75) rfl rfl
   have x76 := κA κ 76 (u76) rfl rfl
   have x77 := κA κ 77 (u77) rfl rfl
   have x78 := κA κ 78 (u78) rfl rfl
   have x79 := κA κ 79 (u79) rfl rfl
   have x80 := κA κ 80 (u80) rfl rfl
   have x81 := κA κ 81 (u81) rfl rfl
   have x82 := κA κ 82 (u82) rfl rfl
   have x83 := κA κ 83 (u83) rfl rfl
   have x84 := κA κ 84 (u84) rfl rfl
   have x85 := κA κ 85 (u85) rfl rfl
   have x86 := κA κ 86 (u86) rfl rfl
   have x87 := κA κ 87 (u87) rfl rfl
   have x88 := κA κ 88 (u88) rfl rfl
   have x89 := κA κ 89 (u89) rfl rfl
   have x90 := κA κ 90 (u90) rfl rfl
   have x91 := κA κ 91 (u91) rfl rfl
   have x92 := κA κ 92 (u92) rfl rfl
   have x93 := κA κ 93 (u93) rfl rfl
   have x94 := κA κ 94 (u94) rfl rfl
   have x95 := κA κ 95 (undef) rfl rfl
   have x96 := κA κ 96 (undef) rfl rfl
   have x97 := κA κ 97 (undef) rfl rfl
   have x98 := κA κ 98 (undef) rfl rfl
   have ea := act_lit hsz hdf
   simp only [getDs] at ea
   rw [x71, x0, x1, x2, x3, x4, x5, x6, x7, x8, x9, x10, x11, x12, x13, x14, x15, x16, x17, x18, x19, x20, x21, x22, x23, x24, x25, x26, x27, x28, x29, x30, x31, x32, x33, x34, x35, x36, x37, x38, x39, x40, x41, x42, x43, x44, x45, x46, x47, x48, x49, x50, x51, x52, x53, x54, x55, x56, x57, x72, x73, x74, x75, x76, x77, x78, x79, x80, x81, x82, x83, x84, x85, x86, x87, x88, x89, x90, x91, x92, x93, x94, x95, x96, x97, x98] at ea
   rw [ea]
   clear ea x71 x0 x1 x2 x3 x4 x5 x6 x7 x8 x9 x10 x11 x12 x13 x14 x15 x16 x17 x18 x19 x20 x21 x22 x23 x24 x25 x26 x27 x28 x29 x30 x31 x32 x33 x34 x35 x36 x37 x38 x39 x40 x41 x42 x43 x44 x45 x46 x47 x48 x49 x50 x51 x52 x53 x54 x55 x56 x57 x72 x73 x74 x75 x76 x77 x78 x79 x80 x81 x82 x83 x84 x85 x86 x87 x88 x89 x90 x91 x92 x93 x94 x95 x96 x97 x98 hPhi κ hdf hsz
   generalize a.tmps.getD 58 undef = u58, a.tmps.getD 59 undef = u59, a.tmps.getD 60 undef = u60, a.tmps.getD 61 undef = u61, a.tmps.getD 62 undef = u62, a.tmps.getD 63 undef = u63, a.tmps.getD 64 undef = u64, a.tmps.getD 65 undef = u65, a.tmps.getD 66 undef = u66, a.tmps.getD 67 undef = u67, a.tmps.getD 68 undef = u68, a.tmps.getD 69 undef = u69, a.tmps.getD 70 undef = u70
   clear a
   clear hpk1 hpk2 m4 m4' m3 e0 e3 d3 y0' y1' y2' y3' y4' y5' y6'
   have B7 := ι (show Below wr.heap.size wr w7 from B6.out.trans (hI.mono GN.out))
   have F7 := ι (F6.out.below hI hXN)
   have BW7 := ι (show Below w.heap.size w w7 from BW.out.trans (B7.out.mono BW.out.size))
   clear hI F6 B6 hXN hGN hgN GN
   cases hr : (pk && decide (x.num ≤ y.num)) with
   | true =>
    have H3 := ι (show lstE d = 8 by
     have e : cutN d.cuts day k x = 8 := by rw [HN1.out, if_pos hr]
     have e2 : cutL d.cuts day 0 d.cuts = 8 := by rw [← HF.out, HD.out, e, if_neg (by decide)]
     rw [HE.out, if_pos (by rw [e2]; decide), e2])
    go_wp2_with fail
    go_ret
    exact ⟨by rw [H3.out]; rfl, BW7.out⟩
   | false =>
   have HN2 := ι (show cutN d.cuts day k x = if q ≠ 0 then q else if (pk && decide (x.i < y.o)) = true then 14 else 0 by rw [HN1.out, if_neg (by rw [hr]; decide)])
   clear hr HN1
   have fq := F7.out.cell
   have hX7 := F7.out.lt
   unfold Ct.cs at fq
   go_wp2_with fail
   refine (HCK.out w7).mono ?_
   rintro e' w8 ⟨rfl, hb⟩
   have B8 := ι (B7.out.trans (hb.mono B7.out.size))
   have F8 := ι (F7.out.ext hb)
   have BW8 := ι (show Below w.heap.size w w8 from BW.out.trans (B8.out.mono BW.out.size))
   have G8 := ι (FR.out.ext B8.out)
   clear hb fq hX7 F7 B7 BW7 HCK
   by_cases hq0' : q ≠ 0
   ·have t0 : (q != 0) = true := by simpa using hq0'
    have H3 := ι (show lstE d = q by
     have e : cutN d.cuts day k x = q := by rw [HN2.out, if_pos hq0']
     have e2 : cutL d.cuts day 0 d.cuts = q := by rw [← HF.out, HD.out, e, if_neg (by exact hq0')]
     rw [HE.out, if_pos (by rw [e2]; exact hq0'), e2])
    go_wp2_with fail
    go_ret
    exact ⟨by rw [H3.out]; rfl, BW8.out⟩
   have hq0 : q = 0 := by omega
   clear hq0'
   have HN3 := ι (show cutN d.cuts day k x = if (pk && decide (x.i < y.o)) = true then 14 else 0 by rw [HN2.out, if_neg (by omega)])
   subst hq0
   clear HN2
   have fq := F8.out.cell
   have hX8 := F8.out.lt
   unfold Ct.cs at fq
   go_wp2_with fail
   clear fq hX8
   obtain ⟨N, hN⟩ : ∃ N, N = w8.heap.size := ⟨_, rfl⟩
   have hXN : X < N := by have := F8.out.lt; omega
   have hGN : G < N := by have := G8.out.lt; omega
   obtain ⟨g3, o3, eg, y0', y1', y2', y3', y4', y5', y6'⟩ := CutsAt.get (HR.out.ext (Flat.stays _) B8.out) HY0.out
   obtain ⟨rfl, rfl⟩ : g2 = g3 ∧ o2 = o3 := by
    injection eg with e
    injection e with e1 e2
    exact ⟨e1, e2⟩
   clear eg
   have hgN : g2 < N := by have h : g2 < w8.heap.size := World.block_lt_of_cell? w8 _ y0'; omega
   have GN := ι (show wr.heap.size ≤ N by have := B8.out.size; omega)
   clear hN
   have e0 : w8.cell? ⟨X, 0, none⟩ = some (.int .i64 x.num) := F8.out.cell 0
   have e3 : w8.cell? ⟨X, 3, none⟩ = some (.int .i64 x.i) := F8.out.cell 3
   have d3 : w8.cell? ⟨G, 3, none⟩ = some (.slice (some ⟨g2, o2, none⟩) d.cuts.length cc) := G8.out.cell 3
   have hpk1 : decide ((0 : Int) < (k : Int)) = pk := by rw [HP.out.1]; simp
   have hpk2 : decide (0 < k) = pk := HP.out.1.symm
   have m4 : (m : Int) < (d.cuts.length : Int) := by have := HP.out.2.2; omega
   have m4' : m < d.cuts.length := HP.out.2.2
   have m3 : pk = true → IntKind.i64.wrap ((k : Int) - 1) = (m : Int) := fun h => by
    have := HP.out.2.1 (of_decide_eq_true (HP.out.1.symm.trans h))
    rw [IntKind.wrap_i64]
    omega
   refine wp_region_spec (by kernel_rfl) (fun w' => Below N w8 w') (PhiL3 X G g2 o2 m k d.cuts.length cc x y pk) 99 rfl (by kernel_rfl) (Below.refl _ _).drew ?hops ?hend
   case hops =>
    refine ⟨?o0, ?o1, ?o2, ?o3, ?o4, ?o5, ?o6, ?o7, ?o8, ?o9, ?o10, ?o11, ?o12, ?o13, ?o14, ?o15, trivial⟩
    case o0 =>
     intro ev w8 hI δ φ
     have a4 : ev 4 = .int .i64 (k : Int) := φ 4 (by kernel_rfl)
     clear δ φ
     try dsimp only
     simp [OpRuns, execOp, evalOf, a4, go_sem]
     exact ⟨hI, rfl⟩
    case o1 =>
     intro ev w8 hI δ φ
     have a78 : ev 78 = .int .i64 (k : Int) := δ 0 78 (by kernel_rfl) rfl
     clear δ φ
     try dsimp only
     simp [OpRuns, execOp, evalOf, a78, go_sem]
     exact ⟨hI, congrArg Value.bool hpk2⟩
    case o2 =>
     intro ev w8 hI δ φ
     have a79 : ev 79 = .bool (pk) := δ 1 79 (by kernel_rfl) rfl
     clear δ φ
     try dsimp only
     simp [OpRuns, execOp, evalOf, a79, go_sem]
     exact ⟨hI, rfl⟩
    case o3 =>
     intro ev w8 hI δ φ
     have ag : ev 80 = .bool pk := δ 2 80 (by kernel_rfl) rfl
     refine γ ag rfl (fun hR => ?_) fun hn d hd => by cases hd; exact ⟨fun hr => absurd hr hn, fun _ => rfl⟩
     clear ag
     have a5 : ev 5 = .pointer (some ⟨X, 0, none⟩) := φ 5 (by kernel_rfl)
     clear δ φ
     try dsimp only
     simp [OpRuns, execOp, evalOf, a5, go_sem]
     exact ⟨hI, ⟨fun _ => rfl, fun h => absurd hR h⟩⟩
    case o4 =>
     intro ev w8 hI δ φ
     have ag : ev 80 = .bool pk := δ 2 80 (by kernel_rfl) rfl
     refine γ ag rfl (fun hR => ?_) fun hn d hd => by cases hd; exact ⟨fun hr => absurd hr hn, fun _ => rfl⟩
     clear ag
     have a81 : ev 81 = .pointer (some ⟨X, 3, none⟩) := (δ 3 81 (by kernel_rfl) rfl).1 hR
     clear δ φ
     try dsimp only
     simp [OpRuns, execOp, evalOf, a81, go_sem]
     exact ⟨hI, ⟨fun _ => rfl, fun h => absurd hR h⟩⟩
    case o5 =>
     intro ev w8 hI δ φ
     have ag : ev 80 = .bool pk := δ 2 80 (by kernel_rfl) rfl
     refine γ ag rfl (fun hR => ?_) fun hn d hd => by cases hd; exact ⟨fun hr => absurd hr hn, fun _ => rfl⟩
     clear ag
     have a82 : ev 82 = .pointer (some ⟨X, 3, none⟩) := (δ 4 82 (by kernel_rfl) rfl).1 hR
     have y0 : w8.cell? ⟨X, 3, none⟩ = some (.int .i64 x.i) := (hI.cell (p := ⟨X, 3, none⟩) hXN).trans e3
     clear δ φ
     try dsimp only
     simp [OpRuns, execOp, evalOf, a82, y0, go_sem]
     exact ⟨hI, ⟨fun _ => rfl, fun h => absurd hR h⟩⟩
    case o6 =>
     intro ev w8 hI δ φ
     have ag : ev 80 = .bool pk := δ 2 80 (by kernel_rfl) rfl
     refine γ ag rfl (fun hR => ?_) fun hn d hd => by cases hd; exact ⟨fun hr => absurd hr hn, fun _ => rfl⟩
     clear ag
     have a1 : ev 1 = .pointer (some ⟨G, 0, none⟩) := φ 1 (by kernel_rfl)
     clear δ φ
     try dsimp only
     simp [OpRuns, execOp, evalOf, a1, go_sem]
     exact ⟨hI, ⟨fun _ => rfl, fun h => absurd hR h⟩⟩
    case o7 =>
     intro ev w8 hI δ φ
     have ag : ev 80 = .bool pk := δ 2 80 (by kernel_rfl) rfl
     refine γ ag rfl (fun hR => ?_) fun hn d hd => by cases hd; exact ⟨fun hr => absurd hr hn, fun _ => rfl⟩
     clear ag
     have a84 : ev 84 = .pointer (some ⟨G, 3, none⟩) := (δ 6 84 (by kernel_rfl) rfl).1 hR
     have y0 : w8.cell? ⟨G, 3, none⟩ = some (.slice (some ⟨g2, o2, none⟩) d.cuts.length cc) := (hI.cell (p := ⟨G, 3, none⟩) hGN).trans d3
     clear δ φ
     try dsimp only
     simp [OpRuns, execOp, evalOf, a84, y0, go_sem]
     exact ⟨hI, ⟨fun _ => rfl, fun h => absurd hR h⟩⟩
    case o8 =>
     intro ev w8 hI δ φ
     have ag : ev 80 = .bool pk := δ 2 80 (by kernel_rfl) rfl
     refine γ ag rfl (fun hR => ?_) fun hn d hd => by cases hd; exact ⟨fun hr => absurd hr hn, fun _ => rfl⟩
     clear ag
     have a4 : ev 4 = .int .i64 (k : Int) := φ 4 (by kernel_rfl)
     clear δ φ
     try dsimp only
     simp [OpRuns, execOp, evalOf, a4, go_sem]
     exact ⟨hI, ⟨fun _ => rfl, fun h => absurd hR h⟩⟩
    case o9 =>
     intro ev w8 hI δ φ
     have ag : ev 80 = .bool pk := δ 2 80 (by kernel_rfl) rfl
     refine γ ag rfl (fun hR => ?_) fun hn d hd => by cases hd; exact ⟨fun hr => absurd hr hn, fun _ => rfl⟩
     clear ag
     have m3' := m3 hR
     have a86 : ev 86 = .int .i64 (k : Int) := (δ 8 86 (by kernel_rfl) rfl).1 hR
     clear δ φ
     try dsimp only
     simp [OpRuns, execOp, evalOf, a86, m3', go_sem]
     exact ⟨hI, ⟨fun _ => rfl, fun h => absurd hR h⟩⟩
    case o10 =>
     intro ev w8 hI δ φ
     have ag : ev 80 = .bool pk := δ 2 80 (by kernel_rfl) rfl
     refine γ ag rfl (fun hR => ?_) fun hn d hd => by cases hd; exact ⟨fun hr => absurd hr hn, fun _ => rfl⟩
     clear ag
     have a85 : ev 85 = .slice (some ⟨g2, o2, none⟩) d.cuts.length cc := (δ 7 85 (by kernel_rfl) rfl).1 hR
     have a87 : ev 87 = .int .i64 (m : Int) := (δ 9 87 (by kernel_rfl) rfl).1 hR
     clear δ φ
     try dsimp only
     simp [OpRuns, execOp, evalOf, a85, a87, m4, m4', go_sem]
     exact ⟨hI, ⟨fun _ => rfl, fun h => absurd hR h⟩⟩
    case o11 =>
     intro ev w8 hI δ φ
     have ag : ev 80 = .bool pk := δ 2 80 (by kernel_rfl) rfl
     refine γ ag rfl (fun hR => ?_) fun hn d hd => by cases hd; exact ⟨fun hr => absurd hr hn, fun _ => rfl⟩
     clear ag
     have a88 : ev 88 = .pointer (some ⟨g2, o2 + m * 7, none⟩) := (δ 10 88 (by kernel_rfl) rfl).1 hR
     clear δ φ
     try dsimp only
     simp [OpRuns, execOp, evalOf, a88, go_sem]
     exact ⟨hI, ⟨fun _ => rfl, fun h => absurd hR h⟩⟩
    case o12 =>
     intro ev w8 hI δ φ
     have ag : ev 80 = .bool pk := δ 2 80 (by kernel_rfl) rfl
     refine γ ag rfl (fun hR => ?_) fun hn d hd => by cases hd; exact ⟨fun hr => absurd hr hn, fun _ => rfl⟩
     clear ag
     have a89 : ev 89 = .pointer (some ⟨g2, o2 + m * 7 + 3, none⟩) := (δ 11 89 (by kernel_rfl) rfl).1 hR
     clear δ φ
     try dsimp only
     simp [OpRuns, execOp, evalOf, a89, go_sem]
     exact ⟨hI, ⟨fun _ => rfl, fun h => absurd hR h⟩⟩
    case o13 =>
     intro ev w8 hI δ φ
     have ag : ev 80 = .bool pk := δ 2 80 (by kernel_rfl) rfl
     refine γ ag rfl (fun hR => ?_) fun hn d hd => by cases hd; exact ⟨fun hr => absurd hr hn, fun _ => rfl⟩
     clear ag
     have a90 : ev 90 = .pointer (some ⟨g2, o2 + m * 7 + 3 + 1, none⟩) := (δ 12 90 (by kernel_rfl) rfl).1 hR
     have y0 : w8.cell? ⟨g2, o2 + m * 7 + 3 + 1, none⟩ = some (.int .i64 y.o) := (hI.cell (p := ⟨g2, o2 + m * 7 + 3 + 1, none⟩) hgN).trans y4'
     clear δ φ
     try dsimp only
     simp [OpRuns, execOp, evalOf, a90, y0, go_sem]
     exact ⟨hI, ⟨fun _ => rfl, fun h => absurd hR h⟩⟩
    case o14 =>
     intro ev w8 hI δ φ
     have ag : ev 80 = .bool pk := δ 2 80 (by kernel_rfl) rfl
     refine γ ag rfl (fun hR => ?_) fun hn d hd => by cases hd; exact ⟨fun hr => absurd hr hn, fun _ => rfl⟩
     clear ag
     have a83 : ev 83 = .int .i64 x.i := (δ 5 83 (by kernel_rfl) rfl).1 hR
     have a91 : ev 91 = .int .i64 y.o := (δ 13 91 (by kernel_rfl) rfl).1 hR
     clear δ φ
     try dsimp only
     simp [OpRuns, execOp, evalOf, a83, a91, go_sem]
     exact ⟨hI, ⟨fun _ => rfl, fun h => absurd hR h⟩⟩
    case o15 =>
    intro ev w8 hI δ φ
    have a80 : ev 80 = .bool (pk) := δ 2 80 (by kernel_rfl) rfl
    have ax : pk = true → ev 92 = .bool (decide (x.i < y.o)) := fun hc => (δ 14 92 (by kernel_rfl) rfl).1 hc
    clear δ φ
    obtain ⟨cc, hcc⟩ : ∃ cc, cc = pk := ⟨_, rfl⟩
    rw [← hcc] at a80
    cases cc with
    | true =>
     have ax := ax hcc.symm
     have hv : (Value.bool (decide (x.i < y.o))) = (Value.bool (pk && (decide (x.i < y.o)))) := by rw [← hcc]; simp
     clear hcc
     try dsimp only
     simp [OpRuns, execOp, evalOf, a80, ax, go_sem]
     exact ⟨hI, hv⟩
    | false =>
     clear ax
     have hv : Value.bool false = (Value.bool (pk && (decide (x.i < y.o)))) := by rw [← hcc]; simp
     clear hcc
     try dsimp only
     simp [OpRuns, execOp, evalOf, a80, go_sem]
     exact ⟨hI, hv⟩
   case hend =>
   intro a w9 hdf hsz hI hPhi κ
   replace hdf : a.defers = [] := hdf
   replace hsz : a.tmps.size = 99 := hsz
   have x93 : a.tmps.getD 93 undef = .bool (pk && (decide (x.i < y.o))) := hPhi 15 93 (by kernel_rfl)
   have x0 := κA κ 0 (Value.agg #[Value.string (sB d.title), Value.int IntKind.u8 d.rate, Value.bool false, Value.slice (some { block := g2, off := o2 }) d.cuts.length cc]) rfl rfl
   have x1 := κA κ 1 (Value.pointer (some { block := G, off := 0 })) rfl rfl
   have x2 := κA κ 2 (u2) rfl rfl
   have x3 := κA κ 3 (Value.int IntKind.i64 day) rfl rfl
   have x4 := κA κ 4 (Value.int IntKind.i64 (↑k : Int)) rfl rfl
   have x5 := κA κ 5 (Value.pointer (some { block := X, off := 0 })) rfl rfl
   have x6 := κA κ 6 (Value.int IntKind.i64 0) rfl rfl
   have x7 := κA κ 7 (Value.bool false) rfl rfl
   have x8 := κA κ 8 (Value.pointer (some { block := G, off := 0 })) rfl rfl
   have x9 := κA κ 9 (Value.string (sB d.title)) rfl rfl
   have x10 := κA κ 10 (Value.bool true) rfl rfl
   have x11 := κA κ 11 (Value.bool false) rfl rfl
   have x12 := κA κ 12 (Value.bool (decide (400 < (↑d.title.length : Int)))) rfl rfl
   have x13 := κA κ 13 (Value.pointer (some { block := G, off := 0 })) rfl rfl
   have x14 := κA κ 14 (Value.string (sB d.title)) rfl rfl
   have x15 := κA κ 15 (Value.int IntKind.i64 (↑d.title.length : Int)) rfl rfl
   have x16 := κA κ 16 (Value.bool (decide (400 < (↑d.title.length : Int)))) rfl rfl
   have x17 := κA κ 17 (Value.bool false) rfl rfl
   have x18 := κA κ 18 (Value.pointer (some { block := G, off := 1 })) rfl rfl
   have x19 := κA κ 19 (Value.int IntKind.u8 d.rate) rfl rfl
   have x20 := κA κ 20 (Value.bool true) rfl rfl
   have x21 := κA κ 21 (Value.bool false) rfl rfl
   have x22 := κA κ 22 (Value.bool false) rfl rfl
   have x23 := κA κ 23 (Value.pointer (some { block := G, off := 2 })) rfl rfl
   have x24 := κA κ 24 (Value.bool false) rfl rfl
   have x25 := κA κ 25 (Value.bool false) rfl rfl
   have x26 := κA κ 26 (undef) rfl rfl
   have x27 := κA κ 27 (undef) rfl rfl
   have x28 := κA κ 28 (undef) rfl rfl
   have x29 := κA κ 29 (undef) rfl rfl
   have x30 := κA κ 30 (Value.bool false) rfl rfl
   have x31 := κA κ 31 (Value.bool false) rfl rfl
   have x32 := κA κ 32 (Value.bool (decide (64 < (↑d.cuts.length : Int)))) rfl rfl
   have x33 := κA κ 33 (Value.pointer (some { block := G, off := 3 })) rfl rfl
   have x34 := κA κ 34 (Value.slice (some { block := g2, off := o2 }) d.cuts.length cc) rfl rfl
   have x35 := κA κ 35 (Value.int IntKind.i64 (↑d.cuts.length : Int)) rfl rfl
   have x36 := κA κ 36 (Value.bool (decide (64 < (↑d.cuts.length : Int)))) rfl rfl
   have x37 := κA κ 37 (Value.pointer (some { block := G, off := 1 })) rfl rfl
   have x38 := κA κ 38 (Value.int IntKind.u8 d.rate) rfl rfl
   have x39 := κA κ 39 (Value.pointer (some { block := G, off := 2 })) rfl rfl
   have x40 := κA κ 40 (Value.bool false) rfl rfl
   have x41 := κA κ 41 (Value.int IntKind.i64 day) rfl rfl
   have x42 := κA κ 42 (Value.pointer (some { block := G, off := 3 })) rfl rfl
   have x43 := κA κ 43 (Value.slice (some { block := g2, off := o2 }) d.cuts.length cc) rfl rfl
   have x44 := κA κ 44 (Value.int IntKind.i64 (↑d.cuts.length : Int)) rfl rfl
   have x45 := κA κ 45 (Value.int IntKind.i64 (↑k : Int)) rfl rfl
   have x46 := κA κ 46 (Value.bool true) rfl rfl
   have x47 := κA κ 47 (Value.int IntKind.i64 (↑k : Int)) rfl rfl
   have x48 := κA κ 48 (Value.pointer (some { block := g2, off := o2 + k * 7 })) rfl rfl
   have x49 := κA κ 49 (Value.agg #[Value.int IntKind.i64 x.num, Value.string (sB x.reel), Value.int IntKind.i64 x.src, Value.int IntKind.i64 x.i, Value.int IntKind.i64 x.o, Value.int IntKind.i64 x.sn, Value.int IntKind.i64 x.sd]) rfl rfl
   have x50 := κA κ 50 (Value.pointer (some { block := X, off := 0 })) rfl rfl
   have x51 := κA κ 51 (Value.int IntKind.i64 x.num) rfl rfl
   have x52 := κA κ 52 (Value.bool false) rfl rfl
   have x53 := κA κ 53 (Value.bool false) rfl rfl
   have x54 := κA κ 54 (Value.pointer (some { block := X, off := 0 })) rfl rfl
   have x55 := κA κ 55 (Value.int IntKind.i64 x.num) rfl rfl
   have x56 := κA κ 56 (Value.bool false) rfl rfl
   have x57 := κA κ 57 (Value.bool false) rfl rfl
   have x58 := κA κ 58 (u58) rfl rfl
   have x59 := κA κ 59 (u59) rfl rfl
   have x60 := κA κ 60 (u60) rfl rfl
   have x61 := κA κ 61 (u61) rfl rfl
   have x62 := κA κ 62 (u62) rfl rfl
   have x63 := κA κ 63 (u63) rfl rfl
   have x64 := κA κ 64 (u64) rfl rfl
   have x65 := κA κ 65 (u65) rfl rfl
   have x66 := κA κ 66 (u66) rfl rfl
   have x67 := κA κ 67 (u67) rfl rfl
   have x68 := κA κ 68 (u68) rfl rfl
   have x69 := κA κ 69 (u69) rfl rfl
   have x70 := κA κ 70 (u70) rfl rfl
   have x71 := κA κ 71 (Value.bool false) rfl rfl
   have x72 := κA κ 72 (Value.agg #[Value.int IntKind.i64 x.num, Value.string (sB x.reel), Value.int IntKind.i64 x.src, Value.int IntKind.i64 x.i, Value.int IntKind.i64 x.o, Value.int IntKind.i64 x.sn, Value.int IntKind.i64 x.sd]) rfl rfl
   have x73 := κA κ 73 (Value.int IntKind.i64 day) rfl rfl
   have x74 := κA κ 74 (Value.int IntKind.i64 0) rfl rfl
   have x75 := κA κ 75 (Value.int IntKind.i64 0) rfl rfl
   have x76 := κA κ 76 (Value.bool false) rfl rfl
   have x77 := κA κ 77 (u77) rfl rfl
   have x94 := κA κ 94 (u94) rfl rfl
   have x95 := κA κ 95 (undef) rfl rfl
   have x96 := κA κ 96 (undef) rfl rfl
   have x97 := κA κ 97 (undef) rfl rfl
   have x98 := κA κ 98 (undef) rfl rfl
   have ea := act_lit hsz hdf
   simp only [getDs] at ea
   rw [x93, x0, x1, x2, x3, x4, x5, x6, x7, x8, x9, x10, x11, x12, x13, x14, x15, x16, x17, x18, x19, x20, x21, x22, x23, x24, x25, x26, x27, x28, x29, x30, x31, x32, x33, x34, x35, x36, x37, x38, x39, x40, x41, x42, x43, x44, x45, x46, x47, x48, x49, x50, x51, x52, x53, x54, x55, x56, x57, x58, x59, x60, x61, x62, x63, x64, x65, x66, x67, x68, x69, x70, x71, x72, x73, x74, x75, x76, x77, x94, x95, x96, x97, x98] at ea
   rw [ea]
   clear ea x93 x0 x1 x2 x3 x4 x5 x6 x7 x8 x9 x10 x11 x12 x13 x14 x15 x16 x17 x18 x19 x20 x21 x22 x23 x24 x25 x26 x27 x28 x29 x30 x31 x32 x33 x34 x35 x36 x37 x38 x39 x40 x41 x42 x43 x44 x45 x46 x47 x48 x49 x50 x51 x52 x53 x54 x55 x56 x57 x58 x59 x60 x61 x62 x63 x64 x65 x66 x67 x68 x69 x70 x71 x72 x73 x74 x75 x76 x77 x94 x95 x96 x97 x98 hPhi κ hdf hsz
   generalize a.tmps.getD 78 undef = u78, a.tmps.getD 79 undef = u79, a.tmps.getD 80 undef = u80, a.tmps.getD 81 undef = u81, a.tmps.getD 82 undef = u82, a.tmps.getD 83 undef = u83, a.tmps.getD 84 undef = u84, a.tmps.getD 85 undef = u85, a.tmps.getD 86 undef = u86, a.tmps.getD 87 undef = u87, a.tmps.getD 88 undef = u88, a.tmps.getD 89 undef = u89, a.tmps.getD 90 undef = u90, a.tmps.getD 91 undef = u91, a.tmps.getD 92 undef = u92
   clear a
   clear hpk1 hpk2 m4 m4' m3 e0 e3 d3 y0' y1' y2' y3' y4' y5' y6'
   have B9 := ι (show Below wr.heap.size wr w9 from B8.out.trans (hI.mono GN.out))
   have BW9 := ι (show Below w.heap.size w w9 from BW.out.trans (B9.out.mono BW.out.size))
   clear hI F8 B8 hXN hGN hgN GN
   cases hr : (pk && decide (x.i < y.o)) with
   | true =>
    have H3 := ι (show lstE d = 14 by
     have e : cutN d.cuts day k x = 14 := by rw [HN3.out, if_pos hr]
     have e2 : cutL d.cuts day 0 d.cuts = 14 := by rw [← HF.out, HD.out, e, if_neg (by decide)]
     rw [HE.out, if_pos (by rw [e2]; decide), e2])
    go_wp2_with fail
    go_ret
    exact ⟨by rw [H3.out]; rfl, BW9.out⟩
   | false =>
   have e0' : cutN d.cuts day k x = 0 := by rw [HN3.out, if_neg (by rw [hr]; decide)]
   have H3 := ι (show cutL d.cuts day (k + 1) (d.cuts.drop (k + 1)) = cutL d.cuts day 0 d.cuts by rw [← HF.out, HD.out, if_pos e0'])
   have BM := ι (show Below w4.heap.size w4 w9 from BR.out.trans (B9.out.mono BR.out.size))
   clear e0' HN3 HF HD hr
   go_wp2_with fail
   go_roundw
   case rel => exact ⟨k + 1, by have := HI.out.2; omega, by go_num, H3, BM⟩
   case measure => simp [intOf]; have := HI.out.2; omega
  obtain rfl : k = d.cuts.length := by omega
  have e0 : cutL d.cuts day 0 d.cuts = 0 := by rw [← HF.out, List.drop_length]; rfl
  have HE5 := ι (show lstE d = if 16 < nr then 9 else 0 by rw [HE.out, if_neg (by rw [e0]; simp)])
  have fq := FR.out.cell
  have hGr : G < wr.heap.size := FR.out.lt
  unfold Lst.cs at fq
  rw [hdd] at fq
  clear hlt HF e0 HE
  go_wp2_with fail
  refine (HRL.out wr BW.out).mono ?_
  rintro e' w9 ⟨⟨A9, c9, rfl⟩, hb⟩
  have B9 := ι (BW.out.trans (hb.mono BW.out.size))
  clear fq hb
  by_cases h9 : 16 < nr
  ·have H3 := ι (show lstE d = 9 by rw [HE5.out, if_pos h9])
   have t0 : (16 : Int) < (nr : Int) := by omega
   go_wp2_with fail
   go_ret
   exact ⟨by rw [H3.out]; rfl, B9.out⟩
  have H3 := ι (show lstE d = 0 by rw [HE5.out, if_neg h9])
  have t0 : ¬ (16 : Int) < (nr : Int) := by omega
  go_wp2_with fail
  go_ret
  exact ⟨by rw [H3.out]; rfl, B9.out⟩
end Go.Proofs.YtmopjhbfobmklaaGreatDoor
