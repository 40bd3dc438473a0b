/-
  Pieces: where they lead, their check, At and Domain. The conditions of the contracts are their hypotheses.
-/
import Derived.Test.YtmopjhbfobmklaaGreatDoorMCs
import Derived.Test.YtmopjhbfobmklaaGreatDoorMCz
import Derived.Test.YtmopjhbfobmklaaGreatDoorMBb
import Derived.Test.YtmopjhbfobmklaaGreatDoorMBf
set_option maxRecDepth 100000
set_option maxHeartbeats 40000000
namespace Go.Proofs.YtmopjhbfobmklaaGreatDoor
open Go.RowKit Go.Joins
set_option linter.unusedVariables false
set_option linter.unusedSimpArgs false
def pcV (p : Pc) : List Value := [.int .i64 p.i, .int .i64 p.o, .int .i64 p.t, .int .i64 p.n, .int .i64 p.d]
theorem pcV_len (p : Pc) : (pcV p).length = 5 := rfl
abbrev rtA (n d : Int) : Value := .agg #[.int .i64 n, .int .i64 d]
abbrev pcA (p : Pc) : Value := .agg #[.int .i64 p.i, .int .i64 p.o, .int .i64 p.t, .int .i64 p.n, .int .i64 p.d]
abbrev PcAt (w : World) (A : Option Addr) (L : List Pc) : Prop := RowAt w A (L.flatMap pcV)
theorem PcAt.get {w : World} {g o : Nat} {L : List Pc} (h : PcAt w (some ⟨g, o, none⟩) L) {k : Nat} {x : Pc} (hk : L[k]? = some x) :
  w.cell? ⟨g, o + k * 5, none⟩ = some (.int .i64 x.i) ∧ w.cell? ⟨g, o + k * 5 + 1, none⟩ = some (.int .i64 x.o) ∧ w.cell? ⟨g, o + k * 5 + 2, none⟩ = some (.int .i64 x.t) ∧ w.cell? ⟨g, o + k * 5 + 3, none⟩ = some (.int .i64 x.n) ∧ w.cell? ⟨g, o + k * 5 + 4, none⟩ = some (.int .i64 x.d) := by
 have H : ∀ j u, j < 5 → (pcV x)[j]? = some u → w.cell? ⟨g, o + k * 5 + j, none⟩ = some u := by
  intro j u hj hu
  obtain ⟨b, o', e, hc⟩ := h (k * 5 + j) u ((flat_get pcV_len hk hj).trans hu)
  cases e
  rwa [← Nat.add_assoc] at hc
 exact ⟨H 0 _ (by omega) rfl, H 1 _ (by omega) rfl, H 2 _ (by omega) rfl, H 3 _ (by omega) rfl, H 4 _ (by omega) rfl⟩
theorem κA {l : List Oper} {f g : Nat → Value} (hk : ∀ s, (∀ j, dstOf l j ≠ some s) → f s = g s) (s : Nat) (v : Value) (hv : g s = v) (h : (List.range l.length).all (fun j => dstOf l j != some s) = true) : f s = v := (hk s (fun j hj => by
 rcases Nat.lt_or_ge j l.length with h' | h'
 ·have := List.all_eq_true.1 h j (List.mem_range.2 h')
  rw [hj] at this
  simp at this
 ·simp [dstOf, List.getElem?_eq_none h'] at hj)).trans hv
theorem κO {l : List Oper} {n : Nat} {f g : Nat → Value} (hk : ∀ s, (∀ j, j < n → dstOf l j ≠ some s) → f s = g s) (s : Nat) (v : Value) (hv : g s = v) (h : (List.range n).all (fun j => dstOf l j != some s) = true) : f s = v := (hk s (fun j hj e => by
 have := List.all_eq_true.1 h j (List.mem_range.2 hj)
 rw [e] at this
 simp at this)).trans hv
theorem PcAt.some {w : World} {A : Option Addr} {L : List Pc} (h : PcAt w A L) {k : Nat} {x : Pc} (hk : L[k]? = some x) : ∃ g o, A = some ⟨g, o, none⟩ := by
 obtain ⟨b, o', e, hc⟩ := h (k * 5 + 0) _ ((flat_get pcV_len hk (by omega)).trans rfl)
 exact ⟨b, o', e⟩
def Pcl (w : World) (v : Value) (L : List Pc) : Prop := ∃ A c, v = .slice A L.length c ∧ PcAt w A L
theorem Pcl.own {w : World} {base : Nat} {v : Value} {L : List Pc} (h : w.ownsRow base 120 5 v L.length (L.flatMap pcV)) : Pcl w v L := by
 obtain ⟨A, c, e, hr, _⟩ := row_of_ownK h
 exact ⟨A, c, e, hr⟩
theorem five_of {w : World} {g : Nat} {a b c d e : Value} (h : Held w g [a, b, c, d, e]) : w.cell? ⟨g, 0, none⟩ = some a ∧ w.cell? ⟨g, 1, none⟩ = some b ∧ w.cell? ⟨g, 2, none⟩ = some c ∧ w.cell? ⟨g, 3, none⟩ = some d ∧ w.cell? ⟨g, 4, none⟩ = some e := ⟨h.cell 0, h.cell 1, h.cell 2, h.cell 3, h.cell 4⟩
end Go.Proofs.YtmopjhbfobmklaaGreatDoor
namespace Go.Proofs.YtmopjhbfobmklaaGreatDoor
open Go.RowKit Go.Joins
set_option linter.unusedVariables false
set_option linter.unusedSimpArgs false
theorem prod_in {a n : Int} (h0 : 0 ≤ n) (h8 : n ≤ 8) (h1 : 0 ≤ a) (h2 : a ≤ 20000000000) : 0 ≤ a * n ∧ a * n ≤ 160000000000 := by
 refine ⟨Int.mul_nonneg h1 h0, ?_⟩
 have := Int.mul_le_mul h2 h8 h0 (by decide)
 omega
theorem quot_floor {K d : Int} (h0 : 0 ≤ K) (h1 : K ≤ 160000000000) (h2 : 1 ≤ d) : Q.quotV K d 1 = (K / d, 0) := by
 have hq : Q.quoQ K d 1 = K / d := by
  unfold Q.quoQ
  rw [if_pos rfl, if_neg (by omega), if_neg (by omega)]
 have := Int.ediv_le_self d h0
 unfold Q.quotV
 rw [if_neg (by omega), if_neg (by omega), hq, if_neg (by omega)]
theorem to_any (p : Pc) (x : Int) (w : World) (h : spdB p = true) (h1 : 0 ≤ x - p.i) (h2 : x - p.i ≤ 5184000) (h3 : 0 ≤ p.i) (h4 : p.i ≤ 5184000) (h5 : 0 ≤ p.t) (h6 : p.t ≤ 5184000) :
  Calls Tryz.prog 49 #[pcA p, .int .i64 x] w fun e w' => e = .returned (.int .i64 (ledP p x)) ∧ Below w.heap.size w w' := by
 obtain ⟨k1, k2, k3, k4, _⟩ := spd_bd h
 obtain ⟨i, o, t, n, d⟩ := p
 simp only [] at h1 h2 h3 h4 h5 h6 k1 k2 k3 k4
 obtain ⟨K, hK⟩ : ∃ K, K = (x - i) * n := ⟨_, rfl⟩
 obtain ⟨b1, b2⟩ := prod_in k1 k2 h1 (by omega)
 rw [← hK] at b1 b2
 have hq := quot_floor b1 b2 k3
 have hl : ledP ⟨i, o, t, n, d⟩ x = t + K / d := by rw [hK]; rfl
 have b3 := Int.ediv_nonneg b1 (show 0 ≤ d by omega)
 have b4 := Int.ediv_le_self d b1
 rw [hl]
 have HQ := ι (fun W : World => Q.quotient_any K d 1 W (by omega) (by omega) (by omega) (by omega))
 rw [hq] at HQ
 obtain ⟨q, hqd⟩ : ∃ q, q = K / d := ⟨_, rfl⟩
 rw [← hqd] at HQ b3 b4 ⊢
 have b5 : q ≤ 160000000000 := by omega
 have wK : wrap64 ((x - i) * n) = K := by rw [← hK]; go_arith
 have WK := ι wK
 clear hK hq hl hqd b1 b2 b4 h wK
 obtain ⟨D, hD⟩ : ∃ D, D = w.heap.size := ⟨_, rfl⟩
 have HD := ι hD
 rw [← hD]
 clear hD
 go_enter Tryz.func49, Tryz.ntmps49
 go_wp2_with fail
 rw [WK.out]
 rw [← HD.out]
 generalize hw1 : World.alloc w _ = w1
 have F1 := ι (show Held w1 D [.int .i64 i, .int .i64 o, .int .i64 t, .int .i64 n, .int .i64 d] by subst hw1; exact Held.new HD.out)
 have G1 := ι (show Below D w w1 by subst hw1; rw [HD.out]; exact below_one _ _)
 clear hw1
 refine (HQ.out w1).mono ?_
 rintro e w2 ⟨rfl, kk, rfl⟩
 obtain ⟨c0, c1, c2, c3, c4⟩ := five_of (F1.out.drewN kk)
 have G2 := ι (below_drewN G1.out kk)
 generalize w1.drewN kk = w2 at *
 go_wp2_with fail
 go_ret
 exact ⟨rfl, G2.out⟩
end Go.Proofs.YtmopjhbfobmklaaGreatDoor
namespace Go.Proofs.YtmopjhbfobmklaaGreatDoor
open Go.RowKit Go.Joins
set_option linter.unusedVariables false
set_option linter.unusedSimpArgs false
def Frq (x : Pc) : Prop := (-9223372036854775808 ≤ x.n ∧ x.n ≤ 9223372036854775807) ∧ (-9223372036854775808 ≤ x.d ∧ x.d ≤ 9223372036854775807)
def Frp (L : List Pc) : Prop := ∀ x ∈ L, Frq x
theorem sgl_1 {x : Pc} (h : x.o ≤ x.i) : sglP x = 1 := by unfold sglP; rw [if_pos h]
theorem sgl_2 {x : Pc} (h : x.i < x.o) (h2 : x.i < 0 ∨ 5184000 < x.o) : sglP x = 2 := by unfold sglP; rw [if_neg (by omega), if_pos h2]
theorem sgl_3 {x : Pc} (h : x.i < x.o) (h2 : ¬ (x.i < 0 ∨ 5184000 < x.o)) (h3 : spdB x = false) : sglP x = 3 := by unfold sglP; rw [if_neg (by omega), if_neg h2, if_pos h3]
theorem sgl_4 {x : Pc} (h : x.i < x.o) (h2 : ¬ (x.i < 0 ∨ 5184000 < x.o)) (h3 : spdB x = true) (h4 : x.t < 0 ∨ 5184000 ≤ x.t ∨ 5184000 ≤ ledP x (x.o - 1)) : sglP x = 2 := by unfold sglP; rw [if_neg (by omega), if_neg h2, if_neg (by simp [h3]), if_pos h4]
theorem sgl_0 {x : Pc} (h : x.i < x.o) (h2 : ¬ (x.i < 0 ∨ 5184000 < x.o)) (h3 : spdB x = true) (h4 : ¬ (x.t < 0 ∨ 5184000 ≤ x.t ∨ 5184000 ≤ ledP x (x.o - 1))) : sglP x = 0 := by unfold sglP; rw [if_neg (by omega), if_neg h2, if_neg (by simp [h3]), if_neg h4]
theorem speed_any (x : Pc) (w : World) (h : Frq x) :
  Calls Tryz.prog 89 #[rtA x.n x.d] w fun e w' => e = .returned (.bool (spdB x)) ∧ Below w.heap.size w w' := by
 have HF := ι h
 obtain ⟨D, hD⟩ : ∃ D, D = w.heap.size := ⟨_, rfl⟩
 have HD := ι hD
 rw [← hD]
 clear hD h
 obtain ⟨R, hR⟩ : ∃ R, R = spdB x := ⟨_, rfl⟩
 have HR := ι (show R = (Q.validV x.n x.d && (decide (0 ≤ x.n) && (decide (x.n ≤ 8) && decide (x.d ≤ 8)))) from hR)
 rw [← hR]
 clear hR
 go_enter Tryz.func89, Tryz.ntmps89
 go_wp2_with fail
 rw [← HD.out]
 generalize hw1 : World.alloc w _ = w1
 have F1 := ι (show Held w1 D [.int .i64 x.n, .int .i64 x.d] by subst hw1; exact Held.new HD.out)
 have G1 := ι (show Below D w w1 by subst hw1; rw [HD.out]; exact below_one _ _)
 clear hw1
 refine (Q.valid_any x.n x.d w1 HF.out.1 HF.out.2).mono ?_
 rintro e w2 ⟨rfl, hb⟩
 obtain ⟨c0, c1⟩ := two_of (F1.out.ext hb)
 have G2 := ι (G1.out.trans (hb.mono (by have := F1.out.lt; omega)))
 clear hb
 cases hv : Q.validV x.n x.d with
 | false =>
  obtain rfl : R = false := by rw [HR.out, hv]; rfl
  go_wp2_with fail
  go_ret
  exact ⟨rfl, G2.out⟩
 | true =>
  by_cases h1 : 0 ≤ x.n
  ·by_cases h2 : x.n ≤ 8
   ·by_cases h3 : x.d ≤ 8
    ·obtain rfl : R = true := by rw [HR.out, hv]; simp [h1, h2, h3]
     go_wp2_with fail
     go_ret
     exact ⟨rfl, G2.out⟩
    obtain rfl : R = false := by rw [HR.out, hv]; simp [h1, h2, h3]
    go_wp2_with fail
    go_ret
    exact ⟨by show Ending.returned (.bool (decide (x.d ≤ 8))) = _; rw [decide_eq_false (by omega)], G2.out⟩
   obtain rfl : R = false := by rw [HR.out, hv]; simp [h1, h2]
   go_wp2_with fail
   go_ret
   exact ⟨rfl, G2.out⟩
  obtain rfl : R = false := by rw [HR.out, hv]; simp [h1]
  go_wp2_with fail
  go_ret
  exact ⟨rfl, G2.out⟩
end Go.Proofs.YtmopjhbfobmklaaGreatDoor
namespace Go.Proofs.YtmopjhbfobmklaaGreatDoor
open Go.RowKit Go.Joins
set_option linter.unusedVariables false
set_option linter.unusedSimpArgs false
def pvP (L : List Pc) (k : Nat) : Option Int := match k with | 0 => none | k + 1 => (L[k]?).map (·.o)
theorem chkQ_step {L : List Pc} {k : Nat} {x : Pc} (hk : L[k]? = some x) : chkQ (pvP L k) (L.drop k) =
  if sglP x ≠ 0 then sglP x else if befP (pvP L k) x.i = true then 8 else chkQ (pvP L (k + 1)) (L.drop (k + 1)) := by
 obtain ⟨h, e⟩ := List.getElem?_eq_some_iff.1 hk
 rw [List.drop_eq_getElem_cons h, e]
 show chkQ (pvP L k) (x :: L.drop (k + 1)) = _
 rw [show pvP L (k + 1) = some x.o by simp [pvP, hk]]
 rfl
theorem chkp_any (A : Option Addr) (c : Nat) (L : List Pc) (w : World) (hs : PcAt w A L) (hf : Frp L) (hl : L.length ≤ 1000000000) :
  Calls Tryz.prog 48 #[.slice A L.length c] w fun e w' => e = .returned (.int .i64 (chkP L)) ∧ Below w.heap.size w w' := by
 have HS := ι hs
 have HF := ι hf
 clear hs hf
 obtain ⟨D, hD⟩ : ∃ D, D = w.heap.size := ⟨_, rfl⟩
 have HD := ι hD
 rw [← hD]
 clear hD
 by_cases h4 : 64 < L.length
 ·rw [show chkP L = 9 by unfold chkP; rw [if_pos h4]]
  have h5 : (64 : Int) < (L.length : Int) := by omega
  go_enter Tryz.func48, Tryz.ntmps48
  go_wp2_with fail
  go_ret
  exact ⟨rfl, Below.refl _ _⟩
 rw [show chkP L = chkQ none L by unfold chkP; rw [if_neg h4]]
 have h5 : ¬ ((64 : Int) < (L.length : Int)) := by omega
 obtain ⟨R, hR⟩ : ∃ R, R = chkQ none L := ⟨_, rfl⟩
 have HR := ι (show R = chkQ (pvP L 0) (L.drop 0) from hR)
 rw [← hR]
 clear hR
 go_enter Tryz.func48, Tryz.ntmps48
 go_wp2_with fail
 go_loopw [10] (fun i wr => ∃ k : Nat, k ≤ L.length ∧ i = .int .i64 k ∧ Hid (R = chkQ (pvP L k) (L.drop k)) ∧ Hid (Below D w wr)) (fun i _ => L.length - (intOf i).toNat)
 case atStart => exact ⟨0, by omega, rfl, HR, ι (Below.refl _ _)⟩
 case round =>
 obtain ⟨k, hk, rfl, HK, G⟩ := hrel
 clear HR
 have hDw : D ≤ wr.heap.size := by have := G.out.size; have := HD.out; omega
 by_cases hlt : k < L.length
 ·have hlt2 : (k : Int) < (L.length : Int) := by omega
  obtain ⟨x, hx⟩ : ∃ x, L[k]? = some x := ⟨_, List.getElem?_eq_getElem hlt⟩
  have HX := ι hx
  have HRw := HS.out.below (HD.out ▸ G.out) (Nat.le_refl _)
  have HFX := ι (HF.out x (List.mem_of_getElem? hx))
  obtain ⟨g, o, rfl⟩ := PcAt.some HRw hx
  obtain ⟨q0, q1, q2, q3, q4⟩ := PcAt.get HRw hx
  have hst := HK.out.trans (chkQ_step hx)
  by_cases h1 : x.o ≤ x.i
  ·rw [sgl_1 h1, if_pos (by decide)] at hst
   subst hst
   clear HRw hx HK
   go_wp2_with fail
   go_ret
   exact ⟨rfl, (G.out.alloc hDw _)⟩
  have h1 : x.i < x.o := by omega
  by_cases h2 : x.i < 0
  ·rw [sgl_2 h1 (.inl h2), if_pos (by decide)] at hst
   subst hst
   clear HRw hx HK
   go_wp2_with fail
   go_ret
   exact ⟨rfl, (G.out.alloc hDw _)⟩
  by_cases h3 : 5184000 < x.o
  ·rw [sgl_2 h1 (.inr h3), if_pos (by decide)] at hst
   subst hst
   clear HRw hx HK
   go_wp2_with fail
   go_ret
   exact ⟨rfl, (G.out.alloc hDw _)⟩
  have h23 : ¬ (x.i < 0 ∨ 5184000 < x.o) := by omega
  have HST := ι hst
  have H23 := ι h23
  clear HRw hx HK h23 hst
  go_wp2_with fail
  generalize hw2 : World.alloc wr _ = w2
  have F2 := ι (show Held w2 wr.heap.size (pcV x) by subst hw2; exact Held.new rfl)
  have G2 := ι (show Below D w w2 by subst hw2; exact G.out.alloc hDw _)
  have HRW := ι (show PcAt w2 (some ⟨g, o, none⟩) L from HS.out.below (HD.out ▸ G2.out) (Nat.le_refl _))
  clear hw2 q0 q1 q2 q3 q4
  refine (speed_any x w2 HFX.out).mono ?_
  rintro e w3 ⟨rfl, hb⟩
  obtain ⟨c0, c1, c2, c3, c4⟩ := five_of (F2.out.ext hb)
  have F3 := ι (F2.out.ext hb)
  have G3 := ι (G2.out.trans (hb.mono (by have := F2.out.lt; omega)))
  have HRW3 := ι (HRW.out.ext hb)
  generalize hX : wr.heap.size = X at *
  clear hb F2 G2 HRW hX
  cases hb : spdB x with
  | false =>
   obtain rfl : R = 3 := by rw [HST.out, sgl_3 h1 H23.out hb, if_pos (by decide)]
   go_wp2_with fail
   go_ret
   exact ⟨rfl, G3.out⟩
  | true =>
   have HB := ι hb
   obtain ⟨k1, k2, k3, k4, k5⟩ := spd_bd hb
   by_cases h4 : x.t < 0
   ·obtain rfl : R = 2 := by rw [HST.out, sgl_4 h1 H23.out hb (.inl h4), if_pos (by decide)]
    clear hb k5
    go_wp2_with fail
    go_ret
    exact ⟨rfl, G3.out⟩
   by_cases h5 : 5184000 ≤ x.t
   ·obtain rfl : R = 2 := by rw [HST.out, sgl_4 h1 H23.out hb (.inr (.inl h5)), if_pos (by decide)]
    clear hb k5
    go_wp2_with fail
    go_ret
    exact ⟨rfl, G3.out⟩
   have H1 := ι h1
   have HL := ι (fun W : World => to_any x (x.o - 1) W hb (by omega) (by omega) (by omega) (by omega) (by omega) (by omega))
   clear hb k5
   go_wp2_with fail
   refine (HL.out w3).mono ?_
   rintro e w4 ⟨rfl, hb⟩
   obtain ⟨y0, y1, y2, y3, y4⟩ := five_of (F3.out.ext hb)
   have G4 := ι (G3.out.trans (hb.mono (by have := F3.out.lt; omega)))
   have HRW4 := ι (HRW3.out.ext hb)
   clear hb HL c0 c1 c2 c3 c4 F3 G3 HRW3
   by_cases h6 : 5184000 ≤ ledP x (x.o - 1)
   ·obtain rfl : R = 2 := by rw [HST.out, sgl_4 H1.out H23.out HB.out (.inr (.inr h6)), if_pos (by decide)]
    generalize ledP x (x.o - 1) = T at *
    go_wp2_with fail
    go_ret
    exact ⟨rfl, G4.out⟩
   have hst := HST.out
   rw [sgl_0 H1.out H23.out HB.out (by omega), if_neg (by decide)] at hst
   generalize ledP x (x.o - 1) = T at *
   by_cases hk0 : k = 0
   ·subst hk0
    rw [if_neg (by simp [pvP, befP])] at hst
    have HST := ι hst
    clear hst
    go_wp2_with fail
    go_quiet (fail)
    all_goals
     go_wp2_with fail
     go_roundw
     case rel => exact ⟨1, by omega, by go_num, HST, ι (below_drewN G4.out _)⟩
     case measure => simp [intOf]; omega
   obtain ⟨m, hm⟩ : ∃ m, k = m + 1 := ⟨k - 1, by omega⟩
   obtain ⟨y, hy⟩ : ∃ y, L[m]? = some y := ⟨_, List.getElem?_eq_getElem (by omega)⟩
   have hpv : pvP L k = some y.o := by rw [hm]; simp [pvP, hy]
   rw [hpv] at hst
   have m2 : 0 < k := by omega
   have m5 : decide (0 < k) = true := by simpa using m2
   have m3 : IntKind.i64.wrap ((k : Int) - 1) = (m : Int) := by rw [IntKind.wrap_i64]; omega
   have m4 : (m : Int) < (L.length : Int) := by omega
   obtain ⟨r0, r1, r2, r3, r4⟩ := PcAt.get HRW4.out hy
   clear hy hm hpv
   by_cases h7 : x.i < y.o
   ·rw [if_pos (by simpa [befP] using h7)] at hst
    subst hst
    go_wp2_with fail
    go_quiet (fail)
    all_goals
     go_wp2_with fail
     go_ret
     exact ⟨rfl, below_drewN G4.out _⟩
   rw [if_neg (by simpa [befP] using h7)] at hst
   have HST := ι hst
   clear hst
   go_wp2_with fail
   go_quiet (fail)
   all_goals
    go_wp2_with fail
    go_roundw
    case rel => exact ⟨k + 1, by omega, by go_num, HST, ι (below_drewN G4.out _)⟩
    case measure => simp [intOf]; omega
 obtain rfl : k = L.length := by omega
 have hst : R = 0 := by rw [HK.out, List.drop_length]; rfl
 subst hst
 clear hlt HK
 go_wp2_with fail
 go_ret
 exact ⟨rfl, G.out⟩
end Go.Proofs.YtmopjhbfobmklaaGreatDoor
namespace Go.Proofs.YtmopjhbfobmklaaGreatDoor
open Go.RowKit Go.Joins
set_option linter.unusedVariables false
set_option linter.unusedSimpArgs false
end Go.Proofs.YtmopjhbfobmklaaGreatDoor
namespace Go.Proofs.YtmopjhbfobmklaaGreatDoor
open Go.RowKit Go.Joins
set_option linter.unusedVariables false
set_option linter.unusedSimpArgs false
theorem fnd_step {L : List Pc} {k : Nat} {p : Pc} (t : Int) (hk : L[k]? = some p) : fndP (L.drop k) t = if inBp t p = true then (ledP p t, true) else fndP (L.drop (k + 1)) t := by
 obtain ⟨h, e⟩ := List.getElem?_eq_some_iff.1 hk
 rw [List.drop_eq_getElem_cons h, e]
 unfold fndP
 rw [List.find?_cons]
 cases inBp t p <;> rfl
theorem fnd_hit {L : List Pc} {k : Nat} {p : Pc} {t : Int} (hk : L[k]? = some p) (h1 : p.i ≤ t) (h2 : t < p.o) : fndP (L.drop k) t = (ledP p t, true) := by
 rw [fnd_step t hk, if_pos (inBp_iff.2 ⟨h1, h2⟩)]
theorem fnd_miss {L : List Pc} {k : Nat} {p : Pc} {t : Int} (hk : L[k]? = some p) (h : t < p.i ∨ p.o ≤ t) : fndP (L.drop k) t = fndP (L.drop (k + 1)) t := by
 rw [fnd_step t hk, if_neg (fun h2 => by rw [inBp_iff] at h2; omega)]
theorem at_any (A : Option Addr) (c : Nat) (L : List Pc) (t : Int) (w : World) (hs : PcAt w A L) (hf : Frp L) (hl : L.length ≤ 1000000000) :
  Calls Tryz.prog 23 #[.slice A L.length c, .int .i64 t] w fun e w' => e = .returned (.tuple #[.int .i64 (atP L t).1, .bool (atP L t).2]) ∧ Below w.heap.size w w' := by
 have HS := ι hs
 have HC := ι (chkp_any A c L w hs hf hl)
 clear hs hf
 obtain ⟨D, hD⟩ : ∃ D, D = w.heap.size := ⟨_, rfl⟩
 have HD := ι hD
 rw [← hD] at HC ⊢
 clear hD
 by_cases h0 : chkP L = 0
 ·rw [at_good h0]
  have H0 := ι (chkP_ok.1 h0)
  rw [h0] at HC
  obtain ⟨⟨R, B⟩, hR⟩ : ∃ R, R = fndP L t := ⟨_, rfl⟩
  have HR := ι (show (R, B) = fndP (L.drop 0) t from hR)
  rw [← hR]
  clear hR h0
  dsimp only
  go_enter Tryz.func23, Tryz.ntmps23
  go_wp2_with fail
  refine HC.out.mono ?_
  rintro e w1 ⟨rfl, hb⟩
  have G1 := ι hb
  clear hb HC
  go_wp2_with fail
  go_loopw [13] (fun i wr => ∃ k : Nat, k ≤ L.length ∧ i = .int .i64 k ∧ Hid ((R, B) = fndP (L.drop k) t) ∧ Hid (Below D w wr)) (fun i _ => L.length - (intOf i).toNat)
  case atStart => exact ⟨0, by omega, rfl, HR, G1⟩
  case round =>
  obtain ⟨k, hk, rfl, HK, G⟩ := hrel
  clear HR
  have hDw : D ≤ wr.heap.size := by have := G.out.size; have := HD.out; omega
  by_cases hlt : k < L.length
  ·have hlt2 : (k : Int) < (L.length : Int) := by omega
   obtain ⟨x, hx⟩ : ∃ x, L[k]? = some x := ⟨_, List.getElem?_eq_getElem hlt⟩
   have HX := ι hx
   have HRw := HS.out.below (HD.out ▸ G.out) (Nat.le_refl _)
   have HGX := ι (H0.out.2.1 x (List.mem_of_getElem? hx))
   obtain ⟨g, o, rfl⟩ := PcAt.some HRw hx
   obtain ⟨q0, q1, q2, q3, q4⟩ := PcAt.get HRw hx
   clear HRw hx
   by_cases h1 : t < x.i
   ·have HK2 := ι (HK.out.trans (fnd_miss HX.out (.inl h1)))
    go_wp2_with fail
    go_roundw
    case rel => exact ⟨k + 1, by omega, by go_num, HK2, ι (G.out.alloc hDw _)⟩
    case measure => simp [intOf]; omega
   by_cases h2 : x.o ≤ t
   ·have HK2 := ι (HK.out.trans (fnd_miss HX.out (.inr h2)))
    go_wp2_with fail
    go_roundw
    case rel => exact ⟨k + 1, by omega, by go_num, HK2, ι (G.out.alloc hDw _)⟩
    case measure => simp [intOf]; omega
   have hv := HK.out.trans (fnd_hit HX.out (by omega) (by omega))
   obtain ⟨hR1, rfl⟩ := Prod.mk.inj hv
   obtain ⟨a1, a2, a3, a4, a5, a6, a7⟩ := sgl_ok.1 HGX.out
   have a3 : x.o ≤ 5184000 := a3
   have a6 : x.t < 5184000 := a6
   have HL := ι (fun W : World => to_any x t W a4 (by omega) (by omega) (by omega) (by omega) (by omega) (by omega))
   rw [← hR1] at HL
   clear hv HK a7 a4 hR1
   go_wp2_with fail
   generalize hw2 : World.alloc wr _ = w2
   have hs2 : D ≤ w2.heap.size := by subst hw2; simp; omega
   have G2 := ι (show Below D w w2 by subst hw2; exact G.out.alloc hDw _)
   clear hw2 q0 q1 q2 q3 q4
   refine (HL.out w2).mono ?_
   rintro e w3 ⟨rfl, hb⟩
   have G3 := ι (G2.out.trans (hb.mono hs2))
   clear hb HL
   go_wp2_with fail
   go_ret2
   exact ⟨rfl, G3.out⟩
  obtain rfl : k = L.length := by omega
  have hst : (R, B) = (0, false) := by rw [HK.out, List.drop_length]; rfl
  obtain ⟨rfl, rfl⟩ := Prod.mk.inj hst
  clear hlt HK hst
  go_wp2_with fail
  go_ret2
  exact ⟨rfl, G.out⟩
 rw [at_bad h0]
 generalize chkP L = R at *
 have h0b : (R == 0) = false := by simpa using h0
 go_enter Tryz.func23, Tryz.ntmps23
 go_wp2_with fail
 refine HC.out.mono ?_
 rintro e w1 ⟨rfl, hb⟩
 have G1 := ι hb
 clear hb HC
 go_wp2_with fail
 go_ret2
 exact ⟨rfl, G1.out⟩
end Go.Proofs.YtmopjhbfobmklaaGreatDoor
namespace Go.Proofs.YtmopjhbfobmklaaGreatDoor
open Go.RowKit Go.Joins
set_option linter.unusedVariables false
set_option linter.unusedSimpArgs false
end Go.Proofs.YtmopjhbfobmklaaGreatDoor
namespace Go.Proofs.YtmopjhbfobmklaaGreatDoor
open Go.RowKit Go.Joins
set_option linter.unusedVariables false
set_option linter.unusedSimpArgs false
theorem quot_ceil {K d : Int} (h0 : 0 ≤ K) (h1 : K ≤ 160000000000) (h2 : 1 ≤ d) : Q.quotV K d 3 = (-((-K) / d), 0) ∧ 0 ≤ -((-K) / d) ∧ -((-K) / d) ≤ 160000000000 := by
 have hq : Q.quoQ K d 3 = -((-K) / d) := by
  unfold Q.quoQ
  rw [if_neg (by decide), if_pos rfl, if_neg (by omega), if_neg (by omega)]
 have b1 : (-K) / d ≤ 0 := by
  have := Int.ediv_le_ediv (show 0 < d by omega) (show -K ≤ 0 by omega)
  simpa using this
 have b2 : -K ≤ (-K) / d := by
  rw [Int.le_ediv_iff_mul_le (by omega)]
  have := Int.mul_le_mul_of_nonneg_left h2 h0
  rw [Int.neg_mul]
  omega
 unfold Q.quotV
 rw [if_neg (by omega), if_neg (by omega), hq, if_neg (by omega)]
 exact ⟨rfl, by omega, by omega⟩
theorem rea_any (p : Pc) (v : Int) (w : World) (h : sglP p = 0) (h1 : 0 ≤ v) (h2 : v ≤ 10378368000) :
  Calls Tryz.prog 97 #[pcA p, .int .i64 v] w fun e w' => e = .returned (.int .i64 (reaP p v)) ∧ Below w.heap.size w w' := by
 obtain ⟨a1, a2, a3, a4, a5, a6, a7⟩ := sgl_ok.1 h
 obtain ⟨k1, k2, k3, k4, _⟩ := spd_bd a4
 have a3 : p.o ≤ 5184000 := a3
 have a6 : p.t < 5184000 := a6
 clear a7 a4 h
 obtain ⟨D, hD⟩ : ∃ D, D = w.heap.size := ⟨_, rfl⟩
 have HD := ι hD
 rw [← hD]
 clear hD
 obtain ⟨R, hR⟩ : ∃ R, R = reaP p v := ⟨_, rfl⟩
 rw [← hR]
 unfold reaP at hR
 by_cases c1 : v ≤ p.t
 ·rw [if_pos c1] at hR
  subst hR
  go_enter Tryz.func97, Tryz.ntmps97
  go_wp2_with fail
  go_ret
  exact ⟨rfl, HD.out ▸ below_one _ _⟩
 rw [if_neg c1] at hR
 by_cases c2 : p.n = 0
 ·rw [if_pos c2] at hR
  subst hR
  have c3 : (p.n == 0) = true := by simpa using c2
  clear k1 k2
  go_enter Tryz.func97, Tryz.ntmps97
  go_wp2_with fail
  go_ret
  exact ⟨rfl, HD.out ▸ below_one _ _⟩
 rw [if_neg c2] at hR
 have c3 : (p.n == 0) = false := by simpa using c2
 have c4 : p.t < v := by omega
 obtain ⟨i, o, t, n, d⟩ := p
 simp only [] at a1 a2 a3 a5 a6 k1 k2 k3 k4 c1 c2 c3 c4 hR
 obtain ⟨K, hK⟩ : ∃ K, K = (v - t) * d := ⟨_, rfl⟩
 obtain ⟨b1, b2⟩ := prod_in (show 0 ≤ d by omega) k4 (show 0 ≤ v - t by omega) (by omega)
 rw [← hK] at b1 b2 hR
 obtain ⟨hq, b3, b4⟩ := quot_ceil b1 b2 (show 1 ≤ n by omega)
 have HQ := ι (fun W : World => Q.quotient_any K n 3 W (by omega) (by omega) (by omega) (by omega))
 rw [hq] at HQ
 have wK : wrap64 ((v - t) * d) = K := by rw [← hK]; go_arith
 have WK := ι wK
 clear hK hq wK b1 b2 c1 c2
 generalize -(-K / n) = q at *
 have HR := ι hR
 clear hR
 go_enter Tryz.func97, Tryz.ntmps97
 go_wp2_with fail
 rw [WK.out]
 rw [← HD.out]
 generalize hw1 : World.alloc w _ = w1
 have F1 := ι (show Held w1 D [.int .i64 i, .int .i64 o, .int .i64 t, .int .i64 n, .int .i64 d] by subst hw1; exact Held.new HD.out)
 have G1 := ι (show Below D w w1 by subst hw1; rw [HD.out]; exact below_one _ _)
 clear hw1
 refine (HQ.out w1).mono ?_
 rintro e w2 ⟨rfl, kk, rfl⟩
 obtain ⟨y0, y1, y2, y3, y4⟩ := five_of (F1.out.drewN kk)
 have G2 := ι (below_drewN G1.out kk)
 generalize w1.drewN kk = w2 at *
 go_wp2_with fail
 go_ret
 exact ⟨by rw [HR.out]; rfl, G2.out⟩
theorem one_row {w : World} {g : Nat} {s : Spn} (h : Held w g [.int .i64 s.i, .int .i64 s.o]) : SpAt w (some ⟨g, 0, none⟩) [s] := by
 obtain ⟨c0, c1⟩ := two_of h
 refine row_of_cells (k := 0) ?_
 simp [CellsAt, spV, c0, c1]
theorem cspan_any (A : Option Addr) (c : Nat) (L : List Pc) (s : Spn) (w : World) (hs : PcAt w A L) (hf : Frp L) (hl : L.length ≤ 1000000000) :
  Calls Tryz.prog 96 #[.slice A L.length c, spA s] w fun e w' => e = .returned (.int .i64 (if chkP L = 0 then chkS [s] else chkP L)) ∧ Below w.heap.size w w' := by
 have HS := ι hs
 have HC := ι (fun (W : World) (h : PcAt W A L) => chkp_any A c L W h hf hl)
 obtain ⟨D, hD⟩ : ∃ D, D = w.heap.size := ⟨_, rfl⟩
 have HD := ι hD
 rw [← hD]
 clear hD hs hf
 by_cases h0 : chkP L = 0
 ·rw [if_pos h0]
  rw [h0] at HC
  obtain ⟨E, hE⟩ : ∃ E, E = chkS [s] := ⟨_, rfl⟩
  have HE := ι hE
  rw [← hE]
  clear hE h0
  go_enter Tryz.func96, Tryz.ntmps96
  go_wp2_with fail
  rw [← HD.out]
  generalize hw1 : World.alloc w _ = w1
  have F1 := ι (show Held w1 D [.int .i64 s.i, .int .i64 s.o] by subst hw1; exact Held.new HD.out)
  have G1 := ι (show Below D w w1 by subst hw1; rw [HD.out]; exact below_one _ _)
  have H1 := ι (show PcAt w1 A L from HS.out.ext (HD.out ▸ G1.out))
  clear hw1
  refine (HC.out w1 H1.out).mono ?_
  rintro e w2 ⟨rfl, hb⟩
  obtain ⟨c0, c1⟩ := two_of (F1.out.ext hb)
  have hs2 : D < w2.heap.size := (F1.out.ext hb).lt
  have G2 := ι (G1.out.trans (hb.mono (by have := F1.out.lt; omega)))
  clear hb HC
  go_wp2_with fail
  generalize hw3 : World.alloc w2 _ = w3
  have F3 := ι (show Held w3 w2.heap.size [.int .i64 s.i, .int .i64 s.o] by subst hw3; exact Held.new rfl)
  have G3 := ι (show Below D w w3 by subst hw3; exact G2.out.alloc (by omega) _)
  have hs3 : D ≤ w3.heap.size := by subst hw3; simp; omega
  clear hw3
  refine (chk_any (some ⟨w2.heap.size, 0, none⟩) 1 [s] w3 (one_row F3.out) (by simp)).mono ?_
  rintro e w4 ⟨rfl, hb⟩
  rw [← HE.out]
  have G4 := ι (G3.out.trans (hb.mono hs3))
  clear hb
  go_wp2_with fail
  go_ret
  exact ⟨rfl, G4.out⟩
 rw [if_neg h0]
 generalize chkP L = E at *
 have h0b : (E == 0) = false := by simpa using h0
 go_enter Tryz.func96, Tryz.ntmps96
 go_wp2_with fail
 rw [← HD.out]
 generalize hw1 : World.alloc w _ = w1
 have G1 := ι (show Below D w w1 by subst hw1; rw [HD.out]; exact below_one _ _)
 have hs1 : D ≤ w1.heap.size := by subst hw1; simp; have := HD.out; omega
 have H1 := ι (show PcAt w1 A L from HS.out.ext (HD.out ▸ G1.out))
 clear hw1
 refine (HC.out w1 H1.out).mono ?_
 rintro e w2 ⟨rfl, hb⟩
 have G2 := ι (G1.out.trans (hb.mono hs1))
 clear hb HC
 go_wp2_with fail
 go_ret
 exact ⟨rfl, G2.out⟩
end Go.Proofs.YtmopjhbfobmklaaGreatDoor
