/-
  The contracts of Length, last and checkCut of edl. Their conditions are their hypotheses.
-/
import Derived.Test.YtmopjhbfobmklaaGreatDoorMD4
import Derived.Test.YtmopjhbfobmklaaGreatDoorMBh
namespace Go.Proofs.YtmopjhbfobmklaaGreatDoor
open Go.RowKit Go.Joins
set_option linter.unusedVariables false
set_option linter.unusedSimpArgs false
def lenGL : Int → List Ct → Int
 | n, [] => n
 | n, c :: t => lenGL (max n c.o) t
/-- The record frame behind the last one. -/
def lenG (l : List Ct) : Int := lenGL 0 l
theorem lenGL_drop {n : Int} {l : List Ct} {k : Nat} {c : Ct} (h : l[k]? = some c) : lenGL n (l.drop k) = lenGL (max n c.o) (l.drop (k + 1)) := by
 rw [List.drop_eq_getElem_cons (List.getElem?_eq_some_iff.1 h).1, (List.getElem?_eq_some_iff.1 h).2]
 rfl
set_option maxHeartbeats 4000000 in
theorem length_any (d : Lst) (v : Value) (w : World) (hc : CutsAt w v d.cuts) (hl : d.cuts.length ≤ 2000000) :
  Calls Tryz.prog 6 #[d.v v] w fun e w' => e = .returned (.int .i64 (lenG d.cuts)) ∧ Below w.heap.size w w' := by
 obtain ⟨A, cp, rfl⟩ := hc.form
 have HC := Lib.hid hc
 clear hc
 obtain ⟨G, hG⟩ : ∃ G, G = w.heap.size := ⟨_, rfl⟩
 rw [show d.v (.slice A d.cuts.length cp) = .agg #[.string (sB d.title), .int .u8 d.rate, .bool d.drop, .slice A d.cuts.length cp] from rfl]
 go_enter Tryz.func6, Tryz.ntmps6
 go_wp2_with fail
 rw [← hG]
 generalize hw1 : World.alloc _ _ = w1
 have F1 := Lib.hid (show Held w1 G (d.cs (.slice A d.cuts.length cp)) by subst hw1; exact Held.new hG)
 have B1 := Lib.hid (show Below w.heap.size w w1 by subst hw1; exact Below.more' _ _)
 clear hw1 hG
 go_loopw [3, 9] (fun m i wr => ∃ (k : Nat) (q : Int), k ≤ d.cuts.length ∧ m = .int .i64 q ∧ i = .int .i64 k ∧ Hid (lenGL q (d.cuts.drop k) = lenG d.cuts) ∧ Hid (Below w.heap.size w wr)) (fun _ i _ => d.cuts.length - (intOf i).toNat)
 case atStart => exact ⟨0, 0, Nat.zero_le _, rfl, rfl, Lib.hid rfl, B1⟩
 case round =>
  obtain ⟨k, q, hk, rfl, rfl, HF, BW⟩ := hrel
  by_cases hlt : k < d.cuts.length
  ·have hlt2 : (k : Int) < (d.cuts.length : Int) := by omega
   obtain ⟨x, hx⟩ : ∃ x, d.cuts[k]? = some x := ⟨_, List.getElem?_eq_getElem hlt⟩
   have HD := Lib.hid (lenGL_drop (n := q) hx)
   obtain ⟨b, o, rfl, q0, q1, q2, q3, q4, q5, q6⟩ := CutsAt.get (HC.out.ext (Flat.stays _) BW.out) hx
   have hbr : b < wr.heap.size := World.block_lt_of_cell? wr _ q0
   clear hx
   go_wp2_with fail
   go_roundw
   case rel => exact ⟨k + 1, max q x.o, by omega, by first | rfl | (congr 1; omega), by go_num, Lib.hid (by rw [← HF.out, HD.out]), Lib.hid (BW.out.alloc BW.out.size _)⟩
   case measure => simp [intOf]; omega
  ·obtain rfl : k = d.cuts.length := by omega
   have H3 := Lib.hid (show lenG d.cuts = q by rw [← HF.out, List.drop_length]; rfl)
   clear hlt HF
   go_wp2_with fail
   go_ret
   exact ⟨by rw [H3.out]; rfl, BW.out⟩
def pcOf (c : Ct) : Pc := ⟨c.i, c.o, c.src, c.sn, c.sd⟩
/-- The source frame of the last record frame. -/
def lastV (c : Ct) : Int := ledP (pcOf c) (c.o - 1)
theorem last_any (c : Ct) (w : World) (h : spdB (pcOf c) = true) (h1 : 0 ≤ c.i) (h2 : c.i < c.o) (h3 : c.o ≤ 5184000) (h4 : 0 ≤ c.src) (h5 : c.src ≤ 5184000) :
  Calls Tryz.prog 105 #[c.v] w fun e w' => e = .returned (.int .i64 (lastV c)) ∧ Below w.heap.size w w' := by
 obtain ⟨k1, k2, k3, k4, _⟩ := spd_bd h
 obtain ⟨num, reel, src, i, o, n, d⟩ := c
 simp only [pcOf] at h1 h2 h3 h4 h5 k1 k2 k3 k4
 obtain ⟨K, hK⟩ : ∃ K, K = (o - 1 - i) * n := ⟨_, rfl⟩
 obtain ⟨b1, b2⟩ := prod_in k1 k2 (show 0 ≤ o - 1 - i by omega) (by omega)
 rw [← hK] at b1 b2
 have hq := quot_floor b1 b2 k3
 have hl : lastV ⟨num, reel, src, i, o, n, d⟩ = src + K / d := by rw [hK]; rfl
 have b3 := Int.ediv_nonneg b1 (show 0 ≤ d by omega)
 have b4 := Int.ediv_le_self d b1
 rw [hl]
 have HQ := Lib.hid (fun W : World => Q.quotient_any K d 1 W (by omega) (by omega) (by omega) (by omega))
 rw [hq] at HQ
 obtain ⟨q, hqd⟩ : ∃ q, q = K / d := ⟨_, rfl⟩
 rw [← hqd] at HQ b3 b4 ⊢
 have b5 : q ≤ 160000000000 := by omega
 have wK : wrap64 ((o - 1 - i) * n) = K := by rw [← hK]; go_arith
 have WK := Lib.hid wK
 clear hK hq hl hqd b1 b2 b4 h wK
 obtain ⟨D, hD⟩ : ∃ D, D = w.heap.size := ⟨_, rfl⟩
 have HD := Lib.hid hD
 rw [← hD]
 clear hD
 rw [show Ct.v ⟨num, reel, src, i, o, n, d⟩ = .agg #[.int .i64 num, .string (sB reel), .int .i64 src, .int .i64 i, .int .i64 o, .int .i64 n, .int .i64 d] from rfl]
 go_enter Tryz.func105, Tryz.ntmps105
 go_wp2_with fail
 rw [WK.out]
 rw [← HD.out]
 generalize hw1 : World.alloc w _ = w1
 have F1 := Lib.hid (show Held w1 D (Ct.cs ⟨num, reel, src, i, o, n, d⟩) by subst hw1; exact Held.new HD.out)
 have G1 := Lib.hid (show Below D w w1 by subst hw1; rw [HD.out]; exact Below.more' _ _)
 clear hw1
 refine (HQ.out w1).mono ?_
 rintro e w2 ⟨rfl, kk, rfl⟩
 have F2 := Lib.hid (F1.out.drewN kk)
 have G2 := Lib.hid (below_drewN G1.out kk)
 generalize w1.drewN kk = w2 at *
 have fq := F2.out.cell
 have hG2 := F2.out.lt
 unfold Ct.cs at fq
 go_wp2_with fail
 go_ret
 exact ⟨rfl, G2.out⟩
/-- The first error of a cut. -/
def cutE (c : Ct) (day : Int) : Int :=
 if nmB c.reel = false then 5 else if c.o ≤ c.i then 1 else if c.i < 0 ∨ day ≤ c.o then 2 else if spdB (pcOf c) = false then 3 else if c.src < 0 ∨ day ≤ c.src ∨ day ≤ lastV c then 2 else 0
/-- The numbers of a cut are those of a machine. -/
def CtOk (c : Ct) : Prop := (-9223372036854775808 ≤ c.sn ∧ c.sn ≤ 9223372036854775807) ∧ (-9223372036854775808 ≤ c.sd ∧ c.sd ≤ 9223372036854775807)
set_option maxHeartbeats 8000000 in
theorem checkCut_any (c : Ct) (day : Int) (w : World) (ho : CtOk c) (hd : day ≤ 5184000) :
  Calls Tryz.prog 67 #[c.v, .int .i64 day] w fun e w' => e = .returned (.int .i64 (cutE c day)) ∧ Below w.heap.size w w' := by
 obtain ⟨nm, hnm⟩ : ∃ b, b = nmB c.reel := ⟨_, rfl⟩
 obtain ⟨vl, hvl⟩ : ∃ b, b = Q.validV c.sn c.sd := ⟨_, rfl⟩
 obtain ⟨la, hla⟩ : ∃ q, q = lastV c := ⟨_, rfl⟩
 have HE := Lib.hid (show cutE c day = if nm = false then 5 else if c.o ≤ c.i then 1 else if c.i < 0 ∨ day ≤ c.o then 2 else if (vl && (decide (0 ≤ c.sn) && (decide (c.sn ≤ 8) && decide (c.sd ≤ 8)))) = false then 3 else if c.src < 0 ∨ day ≤ c.src ∨ day ≤ la then 2 else 0 by rw [hnm, hvl, hla]; rfl)
 have HNM := Lib.hid (fun W => show Calls Tryz.prog 52 #[.string (sB c.reel)] W fun e w' => e = .returned (.bool nm) ∧ W = w' from by rw [hnm]; exact name_any (sB c.reel) W)
 have HVL := Lib.hid (fun W => show Calls Tryz.prog 104 #[.agg #[.int .i64 c.sn, .int .i64 c.sd]] W fun e w' => e = .returned (.bool vl) ∧ Below W.heap.size W w' from by rw [hvl]; exact Q.valid_any c.sn c.sd W ho.1 ho.2)
 have HLA := Lib.hid (show ∀ W, (vl && (decide (0 ≤ c.sn) && (decide (c.sn ≤ 8) && decide (c.sd ≤ 8)))) = true → 0 ≤ c.i → c.i < c.o → c.o ≤ 5184000 → 0 ≤ c.src → c.src ≤ 5184000 → Calls Tryz.prog 105 #[.agg #[.int .i64 c.num, .string (sB c.reel), .int .i64 c.src, .int .i64 c.i, .int .i64 c.o, .int .i64 c.sn, .int .i64 c.sd]] W fun e w' => e = .returned (.int .i64 la) ∧ Below W.heap.size W w' from fun W h h1 h2 h3 h4 h5 => by rw [hla]; exact last_any c W (by unfold spdB pcOf; rw [← hvl]; exact h) h1 h2 h3 h4 h5)
 clear hnm hvl hla ho
 obtain ⟨G, hG⟩ : ∃ G, G = w.heap.size := ⟨_, rfl⟩
 rw [show c.v = .agg #[.int .i64 c.num, .string (sB c.reel), .int .i64 c.src, .int .i64 c.i, .int .i64 c.o, .int .i64 c.sn, .int .i64 c.sd] from rfl]
 go_enter Tryz.func67, Tryz.ntmps67
 go_wp2_with fail
 rw [← hG]
 generalize hw1 : World.alloc _ _ = w1
 have F1 := Lib.hid (show Held w1 G c.cs by subst hw1; exact Held.new hG)
 have B1 := Lib.hid (show Below w.heap.size w w1 by subst hw1; exact Below.more' _ _)
 clear hw1 hG
 refine (HNM.out w1).mono ?_
 rintro e' w2 ⟨rfl, rfl⟩
 have q := F1.out.cell
 have hG1 := F1.out.lt
 unfold Ct.cs at q
 cases nm with
 | false =>
  have H3 := Lib.hid (show cutE c day = 5 by rw [HE.out, if_pos rfl])
  go_wp2_with fail
  go_ret
  exact ⟨by rw [H3.out]; rfl, B1.out⟩
 | true =>
 by_cases h1 : c.o ≤ c.i
 ·have H3 := Lib.hid (show cutE c day = 1 by rw [HE.out, if_neg (by decide), if_pos h1])
  go_wp2_with fail
  go_ret
  exact ⟨by rw [H3.out]; rfl, B1.out⟩
 have HE2 := Lib.hid (show cutE c day = if c.i < 0 ∨ day ≤ c.o then 2 else if (vl && (decide (0 ≤ c.sn) && (decide (c.sn ≤ 8) && decide (c.sd ≤ 8)))) = false then 3 else if c.src < 0 ∨ day ≤ c.src ∨ day ≤ la then 2 else 0 by rw [HE.out, if_neg (by decide), if_neg h1])
 clear HE
 by_cases h2 : c.i < 0
 ·have H3 := Lib.hid (show cutE c day = 2 by rw [HE2.out, if_pos (.inl h2)])
  go_wp2_with fail
  go_ret
  exact ⟨by rw [H3.out]; rfl, B1.out⟩
 by_cases h3 : day ≤ c.o
 ·have H3 := Lib.hid (show cutE c day = 2 by rw [HE2.out, if_pos (.inr h3)])
  go_wp2_with fail
  go_ret
  exact ⟨by rw [H3.out]; rfl, B1.out⟩
 have HE3 := Lib.hid (show cutE c day = if (vl && (decide (0 ≤ c.sn) && (decide (c.sn ≤ 8) && decide (c.sd ≤ 8)))) = false then 3 else if c.src < 0 ∨ day ≤ c.src ∨ day ≤ la then 2 else 0 by rw [HE2.out, if_neg (by omega)])
 clear HE2
 go_wp2_with fail
 refine (HVL.out w1).mono ?_
 rintro e' w2 ⟨rfl, hb⟩
 have F2 := Lib.hid (F1.out.ext hb)
 have B2 := Lib.hid (B1.out.trans (hb.mono B1.out.size))
 clear hb F1 B1 q hG1 HNM HVL
 have q := F2.out.cell
 have hG2 := F2.out.lt
 unfold Ct.cs at q
 cases vl with
 | false =>
  have H3 := Lib.hid (show cutE c day = 3 by rw [HE3.out]; rfl)
  go_wp2_with fail
  go_ret
  exact ⟨by rw [H3.out]; rfl, B2.out⟩
 | true =>
 by_cases h4 : c.sn < 0
 ·have H3 := Lib.hid (show cutE c day = 3 by rw [HE3.out, if_pos (by rw [show decide (0 ≤ c.sn) = false by simpa using h4]; rfl)])
  go_wp2_with fail
  go_ret
  exact ⟨by rw [H3.out]; rfl, B2.out⟩
 have e4 : decide (0 ≤ c.sn) = true := by simp; omega
 by_cases h5 : 8 < c.sn
 ·have H3 := Lib.hid (show cutE c day = 3 by rw [HE3.out, if_pos (by rw [e4, show decide (c.sn ≤ 8) = false by simpa using h5]; rfl)])
  clear e4
  go_wp2_with fail
  go_ret
  exact ⟨by rw [H3.out]; rfl, B2.out⟩
 have e5 : decide (c.sn ≤ 8) = true := by simp; omega
 by_cases h6 : 8 < c.sd
 ·have H3 := Lib.hid (show cutE c day = 3 by rw [HE3.out, if_pos (by rw [e4, e5, show decide (c.sd ≤ 8) = false by simpa using h6]; rfl)])
  clear e4 e5
  go_wp2_with fail
  go_ret
  exact ⟨by rw [H3.out]; rfl, B2.out⟩
 have e6 : decide (c.sd ≤ 8) = true := by simp; omega
 have HE4 := Lib.hid (show cutE c day = if c.src < 0 ∨ day ≤ c.src ∨ day ≤ la then 2 else 0 by rw [HE3.out, e4, e5, e6]; rfl)
 have HS := Lib.hid (show (true && (decide (0 ≤ c.sn) && (decide (c.sn ≤ 8) && decide (c.sd ≤ 8)))) = true by rw [e4, e5, e6]; rfl)
 clear HE3 e4 e5 e6
 by_cases h7 : c.src < 0
 ·have H3 := Lib.hid (show cutE c day = 2 by rw [HE4.out, if_pos (.inl h7)])
  go_wp2_with fail
  go_ret
  exact ⟨by rw [H3.out]; rfl, B2.out⟩
 by_cases h8 : day ≤ c.src
 ·have H3 := Lib.hid (show cutE c day = 2 by rw [HE4.out, if_pos (.inr (.inl h8))])
  go_wp2_with fail
  go_ret
  exact ⟨by rw [H3.out]; rfl, B2.out⟩
 go_wp2_with fail
 refine (HLA.out w2 HS.out (by omega) (by omega) (by omega) (by omega) (by omega)).mono ?_
 rintro e' w3 ⟨rfl, hb⟩
 have B3 := Lib.hid (B2.out.trans (hb.mono B2.out.size))
 clear hb F2 B2 q hG2 HLA
 by_cases h9 : day ≤ la
 ·have H3 := Lib.hid (show cutE c day = 2 by rw [HE4.out, if_pos (.inr (.inr h9))])
  go_wp2_with fail
  go_ret
  exact ⟨by rw [H3.out]; rfl, B3.out⟩
 have H3 := Lib.hid (show cutE c day = 0 by rw [HE4.out, if_neg (by omega)])
 go_wp2_with fail
 go_ret
 exact ⟨by rw [H3.out]; rfl, B3.out⟩
end Go.Proofs.YtmopjhbfobmklaaGreatDoor
