/-
  Lengths and reels of edit lists. The conditions of the contracts are their hypotheses.
-/
import Derived.Test.YtmopjhbfobmklaaGreatDoorMD4
import Derived.Test.YtmopjhbfobmklaaGreatDoorMBh
import Derived.Test.YtmopjhbfobmklaaGreatDoorShelf
import Derived.Sort.OwnSorted
import Derived.Lib.OwnBridge
set_option maxRecDepth 100000
set_option maxHeartbeats 40000000
namespace Go.Proofs.YtmopjhbfobmklaaGreatDoor
open Go.RowKit Go.Joins
set_option linter.unusedVariables false
set_option linter.unusedSimpArgs false
def lenGL : Int → List Ct → Int
 | n, [] => n
 | n, c :: t => lenGL (max n c.o) t
def lenG (l : List Ct) : Int := lenGL 0 l
theorem lenGL_drop {n : Int} {l : List Ct} {k : Nat} {c : Ct} (h : l[k]? = some c) : lenGL n (l.drop k) = lenGL (max n c.o) (l.drop (k + 1)) := by
 rw [List.drop_eq_getElem_cons (List.getElem?_eq_some_iff.1 h).1, (List.getElem?_eq_some_iff.1 h).2]
 rfl
theorem length_any (d : Lst) (v : Value) (w : World) (hc : CutsAt w v d.cuts) (hl : d.cuts.length ≤ 2000000) :
  Calls Tryz.prog 6 #[d.v v] w fun e w' => e = .returned (.int .i64 (lenG d.cuts)) ∧ Below w.heap.size w w' := by
 obtain ⟨A, cp, rfl⟩ := hc.form
 have HC := ι hc
 clear hc
 obtain ⟨G, hG⟩ : ∃ G, G = w.heap.size := ⟨_, rfl⟩
 rw [show d.v (.slice A d.cuts.length cp) = .agg #[.string (sB d.title), .int .u8 d.rate, .bool d.drop, .slice A d.cuts.length cp] from rfl]
 go_enter Tryz.func6, Tryz.ntmps6
 go_wp2_with fail
 rw [← hG]
 generalize hw1 : World.alloc _ _ = w1
 have F1 := ι (show Held w1 G (d.cs (.slice A d.cuts.length cp)) by subst hw1; exact Held.new hG)
 have B1 := ι (show Below w.heap.size w w1 by subst hw1; exact Below.more' _ _)
 clear hw1 hG
 go_loopw [3, 9] (fun m i wr => ∃ (k : Nat) (q : Int), k ≤ d.cuts.length ∧ m = .int .i64 q ∧ i = .int .i64 k ∧ Hid (lenGL q (d.cuts.drop k) = lenG d.cuts) ∧ Hid (Below w.heap.size w wr)) (fun _ i _ => d.cuts.length - (intOf i).toNat)
 case atStart => exact ⟨0, 0, Nat.zero_le _, rfl, rfl, ι rfl, B1⟩
 case round =>
 obtain ⟨k, q, hk, rfl, rfl, HF, BW⟩ := hrel
 by_cases hlt : k < d.cuts.length
 ·have hlt2 : (k : Int) < (d.cuts.length : Int) := by omega
  obtain ⟨x, hx⟩ : ∃ x, d.cuts[k]? = some x := ⟨_, List.getElem?_eq_getElem hlt⟩
  have HD := ι (lenGL_drop (n := q) hx)
  obtain ⟨b, o, rfl, q0, q1, q2, q3, q4, q5, q6⟩ := CutsAt.get (HC.out.ext (Flat.stays _) BW.out) hx
  have hbr : b < wr.heap.size := World.block_lt_of_cell? wr _ q0
  clear hx
  go_wp2_with fail
  go_roundw
  case rel => exact ⟨k + 1, max q x.o, by omega, by first | rfl | (congr 1; omega), by go_num, ι (by rw [← HF.out, HD.out]), ι (BW.out.alloc BW.out.size _)⟩
  case measure => simp [intOf]; omega
 obtain rfl : k = d.cuts.length := by omega
 have H3 := ι (show lenG d.cuts = q by rw [← HF.out, List.drop_length]; rfl)
 clear hlt HF
 go_wp2_with fail
 go_ret
 exact ⟨by rw [H3.out]; rfl, BW.out⟩
def pcOf (c : Ct) : Pc := ⟨c.i, c.o, c.src, c.sn, c.sd⟩
def lastV (c : Ct) : Int := ledP (pcOf c) (c.o - 1)
theorem last_any (c : Ct) (w : World) (h : spdB (pcOf c) = true) (h1 : 0 ≤ c.i) (h2 : c.i < c.o) (h3 : c.o ≤ 5184000) (h4 : 0 ≤ c.src) (h5 : c.src ≤ 5184000) :
  Calls Tryz.prog 105 #[c.v] w fun e w' => e = .returned (.int .i64 (lastV c)) ∧ Below w.heap.size w w' := by
 obtain ⟨k1, k2, k3, k4, _⟩ := spd_bd h
 obtain ⟨num, reel, src, i, o, n, d⟩ := c
 simp only [pcOf] at h1 h2 h3 h4 h5 k1 k2 k3 k4
 obtain ⟨K, hK⟩ : ∃ K, K = (o - 1 - i) * n := ⟨_, rfl⟩
 obtain ⟨b1, b2⟩ := prod_in k1 k2 (show 0 ≤ o - 1 - i by omega) (by omega)
 rw [← hK] at b1 b2
 have hq := quot_floor b1 b2 k3
 have hl : lastV ⟨num, reel, src, i, o, n, d⟩ = src + K / d := by rw [hK]; rfl
 have b3 := Int.ediv_nonneg b1 (show 0 ≤ d by omega)
 have b4 := Int.ediv_le_self d b1
 rw [hl]
 have HQ := ι (fun W : World => Q.quotient_any K d 1 W (by omega) (by omega) (by omega) (by omega))
 rw [hq] at HQ
 obtain ⟨q, hqd⟩ : ∃ q, q = K / d := ⟨_, rfl⟩
 rw [← hqd] at HQ b3 b4 ⊢
 have b5 : q ≤ 160000000000 := by omega
 have wK : wrap64 ((o - 1 - i) * n) = K := by rw [← hK]; go_arith
 have WK := ι wK
 clear hK hq hl hqd b1 b2 b4 h wK
 obtain ⟨D, hD⟩ : ∃ D, D = w.heap.size := ⟨_, rfl⟩
 have HD := ι hD
 rw [← hD]
 clear hD
 rw [show Ct.v ⟨num, reel, src, i, o, n, d⟩ = .agg #[.int .i64 num, .string (sB reel), .int .i64 src, .int .i64 i, .int .i64 o, .int .i64 n, .int .i64 d] from rfl]
 go_enter Tryz.func105, Tryz.ntmps105
 go_wp2_with fail
 rw [WK.out]
 rw [← HD.out]
 generalize hw1 : World.alloc w _ = w1
 have F1 := ι (show Held w1 D (Ct.cs ⟨num, reel, src, i, o, n, d⟩) by subst hw1; exact Held.new HD.out)
 have G1 := ι (show Below D w w1 by subst hw1; rw [HD.out]; exact Below.more' _ _)
 clear hw1
 refine (HQ.out w1).mono ?_
 rintro e w2 ⟨rfl, kk, rfl⟩
 have F2 := ι (F1.out.drewN kk)
 have G2 := ι (below_drewN G1.out kk)
 generalize w1.drewN kk = w2 at *
 have fq := F2.out.cell
 have hG2 := F2.out.lt
 unfold Ct.cs at fq
 go_wp2_with fail
 go_ret
 exact ⟨rfl, G2.out⟩
def cutE (c : Ct) (day : Int) : Int :=
 if nmB c.reel = false then 5 else if c.o ≤ c.i then 1 else if c.i < 0 ∨ day ≤ c.o then 2 else if spdB (pcOf c) = false then 3 else if c.src < 0 ∨ day ≤ c.src ∨ day ≤ lastV c then 2 else 0
def CtOk (c : Ct) : Prop := (-9223372036854775808 ≤ c.sn ∧ c.sn ≤ 9223372036854775807) ∧ (-9223372036854775808 ≤ c.sd ∧ c.sd ≤ 9223372036854775807)
theorem checkCut_any (c : Ct) (day : Int) (w : World) (ho : CtOk c) (hd : day ≤ 5184000) :
  Calls Tryz.prog 67 #[c.v, .int .i64 day] w fun e w' => e = .returned (.int .i64 (cutE c day)) ∧ Below w.heap.size w w' := by
 obtain ⟨nm, hnm⟩ : ∃ b, b = nmB c.reel := ⟨_, rfl⟩
 obtain ⟨vl, hvl⟩ : ∃ b, b = Q.validV c.sn c.sd := ⟨_, rfl⟩
 obtain ⟨la, hla⟩ : ∃ q, q = lastV c := ⟨_, rfl⟩
 have HE := ι (show cutE c day = if nm = false then 5 else if c.o ≤ c.i then 1 else if c.i < 0 ∨ day ≤ c.o then 2 else if (vl && (decide (0 ≤ c.sn) && (decide (c.sn ≤ 8) && decide (c.sd ≤ 8)))) = false then 3 else if c.src < 0 ∨ day ≤ c.src ∨ day ≤ la then 2 else 0 by rw [hnm, hvl, hla]; rfl)
 have HNM := ι (fun W => show Calls Tryz.prog 52 #[.string (sB c.reel)] W fun e w' => e = .returned (.bool nm) ∧ W = w' from by rw [hnm]; exact name_any (sB c.reel) W)
 have HVL := ι (fun W => show Calls Tryz.prog 104 #[.agg #[.int .i64 c.sn, .int .i64 c.sd]] W fun e w' => e = .returned (.bool vl) ∧ Below W.heap.size W w' from by rw [hvl]; exact Q.valid_any c.sn c.sd W ho.1 ho.2)
 have HLA := ι (show ∀ W, (vl && (decide (0 ≤ c.sn) && (decide (c.sn ≤ 8) && decide (c.sd ≤ 8)))) = true → 0 ≤ c.i → c.i < c.o → c.o ≤ 5184000 → 0 ≤ c.src → c.src ≤ 5184000 → Calls Tryz.prog 105 #[.agg #[.int .i64 c.num, .string (sB c.reel), .int .i64 c.src, .int .i64 c.i, .int .i64 c.o, .int .i64 c.sn, .int .i64 c.sd]] W fun e w' => e = .returned (.int .i64 la) ∧ Below W.heap.size W w' from fun W h h1 h2 h3 h4 h5 => by rw [hla]; exact last_any c W (by unfold spdB pcOf; rw [← hvl]; exact h) h1 h2 h3 h4 h5)
 clear hnm hvl hla ho
 obtain ⟨G, hG⟩ : ∃ G, G = w.heap.size := ⟨_, rfl⟩
 rw [show c.v = .agg #[.int .i64 c.num, .string (sB c.reel), .int .i64 c.src, .int .i64 c.i, .int .i64 c.o, .int .i64 c.sn, .int .i64 c.sd] from rfl]
 go_enter Tryz.func67, Tryz.ntmps67
 go_wp2_with fail
 rw [← hG]
 generalize hw1 : World.alloc _ _ = w1
 have F1 := ι (show Held w1 G c.cs by subst hw1; exact Held.new hG)
 have B1 := ι (show Below w.heap.size w w1 by subst hw1; exact Below.more' _ _)
 clear hw1 hG
 refine (HNM.out w1).mono ?_
 rintro e' w2 ⟨rfl, rfl⟩
 have q := F1.out.cell
 have hG1 := F1.out.lt
 unfold Ct.cs at q
 cases nm with
 | false =>
  have H3 := ι (show cutE c day = 5 by rw [HE.out, if_pos rfl])
  go_wp2_with fail
  go_ret
  exact ⟨by rw [H3.out]; rfl, B1.out⟩
 | true =>
 by_cases h1 : c.o ≤ c.i
 ·have H3 := ι (show cutE c day = 1 by rw [HE.out, if_neg (by decide), if_pos h1])
  go_wp2_with fail
  go_ret
  exact ⟨by rw [H3.out]; rfl, B1.out⟩
 have HE2 := ι (show cutE c day = if c.i < 0 ∨ day ≤ c.o then 2 else if (vl && (decide (0 ≤ c.sn) && (decide (c.sn ≤ 8) && decide (c.sd ≤ 8)))) = false then 3 else if c.src < 0 ∨ day ≤ c.src ∨ day ≤ la then 2 else 0 by rw [HE.out, if_neg (by decide), if_neg h1])
 clear HE
 by_cases h2 : c.i < 0
 ·have H3 := ι (show cutE c day = 2 by rw [HE2.out, if_pos (.inl h2)])
  go_wp2_with fail
  go_ret
  exact ⟨by rw [H3.out]; rfl, B1.out⟩
 by_cases h3 : day ≤ c.o
 ·have H3 := ι (show cutE c day = 2 by rw [HE2.out, if_pos (.inr h3)])
  go_wp2_with fail
  go_ret
  exact ⟨by rw [H3.out]; rfl, B1.out⟩
 have HE3 := ι (show cutE c day = if (vl && (decide (0 ≤ c.sn) && (decide (c.sn ≤ 8) && decide (c.sd ≤ 8)))) = false then 3 else if c.src < 0 ∨ day ≤ c.src ∨ day ≤ la then 2 else 0 by rw [HE2.out, if_neg (by omega)])
 clear HE2
 go_wp2_with fail
 refine (HVL.out w1).mono ?_
 rintro e' w2 ⟨rfl, hb⟩
 have F2 := ι (F1.out.ext hb)
 have B2 := ι (B1.out.trans (hb.mono B1.out.size))
 clear hb F1 B1 q hG1 HNM HVL
 have q := F2.out.cell
 have hG2 := F2.out.lt
 unfold Ct.cs at q
 cases vl with
 | false =>
  have H3 := ι (show cutE c day = 3 by rw [HE3.out]; rfl)
  go_wp2_with fail
  go_ret
  exact ⟨by rw [H3.out]; rfl, B2.out⟩
 | true =>
 by_cases h4 : c.sn < 0
 ·have H3 := ι (show cutE c day = 3 by rw [HE3.out, if_pos (by rw [show decide (0 ≤ c.sn) = false by simpa using h4]; rfl)])
  go_wp2_with fail
  go_ret
  exact ⟨by rw [H3.out]; rfl, B2.out⟩
 have e4 : decide (0 ≤ c.sn) = true := by simp; omega
 by_cases h5 : 8 < c.sn
 ·have H3 := ι (show cutE c day = 3 by rw [HE3.out, if_pos (by rw [e4, show decide (c.sn ≤ 8) = false by simpa using h5]; rfl)])
  clear e4
  go_wp2_with fail
  go_ret
  exact ⟨by rw [H3.out]; rfl, B2.out⟩
 have e5 : decide (c.sn ≤ 8) = true := by simp; omega
 by_cases h6 : 8 < c.sd
 ·have H3 := ι (show cutE c day = 3 by rw [HE3.out, if_pos (by rw [e4, e5, show decide (c.sd ≤ 8) = false by simpa using h6]; rfl)])
  clear e4 e5
  go_wp2_with fail
  go_ret
  exact ⟨by rw [H3.out]; rfl, B2.out⟩
 have e6 : decide (c.sd ≤ 8) = true := by simp; omega
 have HE4 := ι (show cutE c day = if c.src < 0 ∨ day ≤ c.src ∨ day ≤ la then 2 else 0 by rw [HE3.out, e4, e5, e6]; rfl)
 have HS := ι (show (true && (decide (0 ≤ c.sn) && (decide (c.sn ≤ 8) && decide (c.sd ≤ 8)))) = true by rw [e4, e5, e6]; rfl)
 clear HE3 e4 e5 e6
 by_cases h7 : c.src < 0
 ·have H3 := ι (show cutE c day = 2 by rw [HE4.out, if_pos (.inl h7)])
  go_wp2_with fail
  go_ret
  exact ⟨by rw [H3.out]; rfl, B2.out⟩
 by_cases h8 : day ≤ c.src
 ·have H3 := ι (show cutE c day = 2 by rw [HE4.out, if_pos (.inr (.inl h8))])
  go_wp2_with fail
  go_ret
  exact ⟨by rw [H3.out]; rfl, B2.out⟩
 go_wp2_with fail
 refine (HLA.out w2 HS.out (by omega) (by omega) (by omega) (by omega) (by omega)).mono ?_
 rintro e' w3 ⟨rfl, hb⟩
 have B3 := ι (B2.out.trans (hb.mono B2.out.size))
 clear hb F2 B2 q hG2 HLA
 by_cases h9 : day ≤ la
 ·have H3 := ι (show cutE c day = 2 by rw [HE4.out, if_pos (.inr (.inr h9))])
  go_wp2_with fail
  go_ret
  exact ⟨by rw [H3.out]; rfl, B3.out⟩
 have H3 := ι (show cutE c day = 0 by rw [HE4.out, if_neg (by omega)])
 go_wp2_with fail
 go_ret
 exact ⟨by rw [H3.out]; rfl, B3.out⟩
open Go.RowKit Go.Joins Go.Sort
theorem infoStr : (Tryz.prog.info? 9).map (fun i => (i.zero, i.size, i.bytes)) = some (some (.string ⟨#[]⟩), 1, 16) := by kernel_rfl
abbrev sortL (ss : List (List UInt8)) : List (List UInt8) := ss.mergeSort fun x y => decide (x ≤ y)
theorem sortStr_any (base : Nat) (v : Value) (ss : List (List UInt8)) (w : World) (h : w.ownsRow base 9 1 v ss.length (ss.map encStr)) (hB : base ≤ w.heap.size) (hl : ss.length ≤ 2000000) :
  Calls Tryz.prog 106 #[v] w fun e w' => e = .returned (.tuple #[]) ∧ w'.ownsRow base 9 1 v ss.length ((sortL ss).map encStr) ∧ Below base w w' := by
 rcases h.2 with ⟨e0, e1⟩ | ⟨g, cap, cur, rfl, hb, hg, hn, hm, hs, ht⟩
 ·obtain rfl : ss = [] := by simpa using e1
  subst e0
  have hcon := Tryz.slices_Sort_string_none none 0 w
  refine hcon.mono ?_
  rintro e w' ⟨rfl, rfl⟩
  exact ⟨rfl, by rw [show sortL [] = [] by simp]; exact h, Below.refl _ _⟩
 have hlt : g < w.heap.size := (Array.getElem?_eq_some_iff.1 hg).1
 have hcon := Tryz.slices_Sort_string g 0 cap ss w (holds_of_block hg (by simpa using ht)) hlt (by omega)
 refine hcon.mono ?_
 rintro e w' ⟨rfl, n, os, rfl⟩
 refine ⟨rfl, ownsRow_sorted (by simp) hb hg hn hm hs, (Below.refl _ _).grown (grownBy_sorted _) hB (fun k hk => by cases hk; exact hb)⟩
theorem compactStr_any (base : Nat) (v : Value) (ss : List (List UInt8)) (w : World) (h : w.ownsRow base 9 1 v ss.length (ss.map encStr)) (hB : base ≤ w.heap.size) (hl : ss.length ≤ 2000000) :
  Calls Tryz.prog 107 #[v] w fun e w' => (∃ A c, e = .returned (.slice A (Lib.compact ss).length c)) ∧ Below base w w' := by
 rcases h.2 with ⟨e0, e1⟩ | ⟨g, cap, cur, rfl, hb, hg, hn, hm, hs, ht⟩
 ·obtain rfl : ss = [] := by simpa using e1
  subst e0
  have hcon := Tryz.slices_Compact_string_empty none 0 w
  refine hcon.mono ?_
  rintro e w' ⟨rfl, rfl⟩
  exact ⟨⟨_, _, rfl⟩, Below.refl _ _⟩
 have hcon := Tryz.slices_Compact_string g 0 cap ss w (holds_of_block hg (by simpa using ht)) (by omega) hn
 refine hcon.mono ?_
 rintro e w' ⟨rfl, q, rfl⟩
 exact ⟨⟨_, _, rfl⟩, Lib.below_putRow (Below.refl _ _) hb⟩
def relsN (l : List Ct) : Nat := (Lib.compact (sortL (l.map (·.reel)))).length
theorem take_reel {l : List Ct} {k : Nat} {x : Ct} (h : l[k]? = some x) : (l.take (k + 1)).map (·.reel) = (l.take k).map (·.reel) ++ [x.reel] := by
 rw [List.take_add_one, h]
 simp
theorem reels_any (d : Lst) (v : Value) (w : World) (hc : CutsAt w v d.cuts) (hl : d.cuts.length ≤ 2000000) :
  Calls Tryz.prog 68 #[d.v v] w fun e w' => (∃ A c, e = .returned (.slice A (relsN d.cuts) c)) ∧ Below w.heap.size w w' := by
 obtain ⟨i0, hi, hz0, hz1, hz2⟩ := info_parts infoStr
 have HI0 := ι (And.intro hi (And.intro hz0 (And.intro hz1 hz2)))
 clear hi hz0 hz1 hz2
 obtain ⟨A, cp, rfl⟩ := hc.form
 have HC := ι hc
 clear hc
 obtain ⟨G, hG⟩ : ∃ G, G = w.heap.size := ⟨_, rfl⟩
 rw [show d.v (.slice A d.cuts.length cp) = .agg #[.string (sB d.title), .int .u8 d.rate, .bool d.drop, .slice A d.cuts.length cp] from rfl]
 go_enter Tryz.func68, Tryz.ntmps68
 go_wp2_with fail
 rw [← hG]
 generalize hw1 : World.alloc _ _ = w1
 have F1 := ι (show Held w1 G (d.cs (.slice A d.cuts.length cp)) by subst hw1; exact Held.new hG)
 have B1 := ι (show Below w.heap.size w w1 by subst hw1; exact Below.more' _ _)
 have hN : w.heap.size ≤ w1.heap.size := B1.out.size
 clear hw1 hG
 go_loopw [3, 9] (fun v i wr => ∃ k : Nat, k ≤ d.cuts.length ∧ i = .int .i64 k ∧ Hid (wr.ownsRow w1.heap.size 9 1 v k (((d.cuts.take k).map (·.reel)).map encStr)) ∧ Hid (Below w1.heap.size w1 wr)) (fun _ i _ => d.cuts.length - (intOf i).toNat)
 case atStart => exact ⟨0, Nat.zero_le _, rfl, ι (World.ownsRow_nil _ _ _ _), ι (Below.refl _ _)⟩
 case round =>
 obtain ⟨k, hk, rfl, HO, BR⟩ := hrel
 have BW := ι (B1.out.trans (BR.out.mono hN))
 by_cases hlt : k < d.cuts.length
 ·have hlt2 : (k : Int) < (d.cuts.length : Int) := by omega
  obtain ⟨x, hx⟩ : ∃ x, d.cuts[k]? = some x := ⟨_, List.getElem?_eq_getElem hlt⟩
  have HD := ι (take_reel hx)
  obtain ⟨b, o, rfl, q0, q1, q2, q3, q4, q5, q6⟩ := CutsAt.get (HC.out.ext (Flat.stays _) BW.out) hx
  have hbr : b < wr.heap.size := World.block_lt_of_cell? wr _ q0
  have hs3 : w1.heap.size ≤ wr.heap.size := BR.out.size
  clear hx
  go_wp2_with (at_builtin; go_loud (refine wpList_append_own _ rfl _ _ 144 rfl w1.heap.size 9 i0 (.string ⟨#[]⟩) 1 16 Tryz.underlying144 HI0.out.1 HI0.out.2.1 HI0.out.2.2.1 HI0.out.2.2.2 rfl (by decide) _ k _ rfl (own_ext (own_ext HO.out (Below.more' _ _)) (Below.more' _ _)) ⟨wr.heap.size + 1, 0, none⟩ 1 1 [.string (sB x.reel)] rfl rfl (CellsAt.all (by simp [CellsAt, go_sem])) (by simp [Value.oneCell']) (by simp only [maxLen]; omega) (by omega) (by simp; omega) ?_))
  intro v4 w4 ho4 hgr4 _
  have HO4 := ι (show w4.ownsRow w1.heap.size 9 1 v4 (k + 1) (((d.cuts.take (k + 1)).map (·.reel)).map encStr) by
   have e : ((d.cuts.take (k + 1)).map (·.reel)).map encStr = List.take k (List.map (encStr ∘ fun x => x.reel) d.cuts) ++ [Value.string (sB x.reel)] := by rw [HD.out, List.map_append]; simp; rfl
   rw [e]
   exact ho4)
  have BR4 := ι (show Below w1.heap.size w1 w4 from ((BR.out.alloc BR.out.size _).alloc (by have := BR.out.size; simp; omega) _).grown hgr4 (by have := BR.out.size; simp; omega) (own_base HO.out))
  clear ho4 hgr4 HO BR
  go_wp2_with fail
  go_roundw
  case rel => exact ⟨k + 1, by omega, by go_num, HO4, BR4⟩
  case measure => simp [intOf]; omega
 obtain rfl : k = d.cuts.length := by omega
 rw [List.take_length] at HO
 clear hlt
 go_wp2_with fail
 refine (sortStr_any w1.heap.size _ (d.cuts.map (·.reel)) wr (by simpa using HO.out) BR.out.size (by simpa using hl)).mono ?_
 rintro e w2 ⟨rfl, ho, hb⟩
 have HO2 := ι (show w2.ownsRow w1.heap.size 9 1 _ (sortL (d.cuts.map (·.reel))).length ((sortL (d.cuts.map (·.reel))).map encStr) by simpa using ho)
 have B2 := ι (BR.out.trans hb)
 clear ho hb HO BR BW
 go_wp2_with fail
 refine (compactStr_any w1.heap.size _ (sortL (d.cuts.map (·.reel))) w2 HO2.out B2.out.size (by simpa using hl)).mono ?_
 rintro e w3 ⟨⟨A', c', rfl⟩, hb⟩
 have B3 := ι (show Below w.heap.size w w3 from B1.out.trans ((B2.out.trans hb).mono hN))
 clear hb HO2 B2
 go_wp2_with fail
 go_ret
 exact ⟨⟨A', c', rfl⟩, B3.out⟩
end Go.Proofs.YtmopjhbfobmklaaGreatDoor
