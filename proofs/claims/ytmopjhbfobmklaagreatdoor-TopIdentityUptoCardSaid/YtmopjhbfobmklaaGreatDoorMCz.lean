/-
  Ratios and pieces, plain. The conditions of the contracts are their hypotheses.
-/
import Derived.Lib.ItoaNum
import Derived.Lib.ItoaLen
import Derived.Test.YtmopjhbfobmklaaGreatDoorMBa
import Derived.Test.YtmopjhbfobmklaaGreatDoorMCs
import Derived.Lib.ParseIntB
import Derived.Lib.Join
set_option maxRecDepth 100000
set_option maxHeartbeats 40000000
namespace Go.Proofs.YtmopjhbfobmklaaGreatDoor.Q
set_option linter.unusedVariables false
set_option linter.unusedSimpArgs false
def gcdV (a b : Int) : Int := if a = -9223372036854775808 ∨ b = -9223372036854775808 then 0 else ((Int.gcd a b : Nat) : Int)
def partsV (n d : Int) : Bool := decide (-2147483648 ≤ n) && decide (n ≤ 2147483648) && (decide (1 ≤ d) && decide (d ≤ 2147483648))
def validV (n d : Int) : Bool := partsV n d && decide (gcdV n d = 1)
theorem parts_bd {n d : Int} (h : partsV n d = true) : -2147483648 ≤ n ∧ n ≤ 2147483648 ∧ 1 ≤ d ∧ d ≤ 2147483648 := by
 simp [partsV] at h
 omega
theorem parts_no {n d : Int} (h : partsV n d = false) : n < -2147483648 ∨ 2147483648 < n ∨ d < 1 ∨ 2147483648 < d := by
 by_cases h1 : -2147483648 ≤ n
 ·by_cases h2 : n ≤ 2147483648
  ·by_cases h3 : 1 ≤ d
   ·by_cases h4 : d ≤ 2147483648
    ·simp [partsV, h1, h2, h3, h4] at h
    omega
   omega
  omega
 omega
theorem valid_bd {n d : Int} (h : validV n d = true) : -2147483648 ≤ n ∧ n ≤ 2147483648 ∧ 1 ≤ d ∧ d ≤ 2147483648 ∧ Int.gcd n d = 1 := by
 simp only [validV, Bool.and_eq_true, decide_eq_true_eq] at h
 obtain ⟨h1, h2⟩ := h
 have := parts_bd h1
 refine ⟨this.1, this.2.1, this.2.2.1, this.2.2.2, ?_⟩
 rw [gcdV, if_neg (by omega)] at h2
 omega
end Go.Proofs.YtmopjhbfobmklaaGreatDoor.Q
namespace Go.Proofs.YtmopjhbfobmklaaGreatDoor.Q
set_option linter.unusedVariables false
set_option linter.unusedSimpArgs false
def quoQ (n d mode : Int) : Int :=
 if mode = 1 then (if d < 0 then -n else n) / (if d < 0 then -d else d)
 else if mode = 3 then -((-(if d < 0 then -n else n)) / (if d < 0 then -d else d))
 else (2 * (if d < 0 then -n else n) + (if d < 0 then -d else d)) / (2 * (if d < 0 then -d else d))
def quotV (n d mode : Int) : Int × Int :=
 if d = 0 then (0, 1) else if mode < 1 ∨ 3 < mode then (0, 3)
 else if 9223372036854775807 < quoQ n d mode then (0, 2) else (quoQ n d mode, 0)
theorem div_is {x e k : Int} (he : 0 < e) (h1 : k * e ≤ x) (h2 : x < k * e + e) : x / e = k := by
 have a : k ≤ x / e := (Int.le_ediv_iff_mul_le he).2 h1
 have b : x / e < k + 1 := (Int.ediv_lt_iff_lt_mul he).2 (by rw [Int.add_mul, Int.one_mul]; exact h2)
 omega
theorem div_twice {x e k : Int} (he : 0 < e) (h1 : 2 * (k * e) ≤ x) (h2 : x < 2 * (k * e) + 2 * e) : x / (2 * e) = k := by
 refine div_is (by omega) ?_ ?_
 ·rw [Int.mul_left_comm]; exact h1
 rw [Int.mul_left_comm]; exact h2
def awayV (neg : Bool) (r d mode : Int) : Bool :=
 if r = 0 then false else if mode = 1 then neg else if mode = 3 then !neg else decide (d - r < r) || (decide (r = d - r) && !neg)
def upV (b : Bool) : Int := if b then 1 else 0
theorem quo_mag {n d q r : Int} {neg : Bool} (mode : Int) (h0 : d ≠ 0) (hm : 1 ≤ mode) (hm2 : mode ≤ 3) (hneg : neg = (decide (n < 0) != decide (d < 0)))
  (hqr : (n.natAbs : Int) = q * (d.natAbs : Int) + r) (hr0 : 0 ≤ r) (hr1 : r < (d.natAbs : Int)) :
  quoQ n d mode = if neg then -(q + upV (awayV neg r (d.natAbs : Int) mode)) else q + upV (awayV neg r (d.natAbs : Int) mode) := by
 obtain ⟨m, hmdef⟩ : ∃ m, m = (if d < 0 then -n else n) := ⟨_, rfl⟩
 obtain ⟨e, hedef⟩ : ∃ e, e = (if d < 0 then -d else d) := ⟨_, rfl⟩
 have he : e = (d.natAbs : Int) := by rw [hedef]; split <;> omega
 have hmm : m = if neg then -(n.natAbs : Int) else (n.natAbs : Int) := by
  rw [hmdef, hneg]
  by_cases h1 : n < 0 <;> by_cases h2 : d < 0 <;> simp [h1, h2] <;> omega
 have hepos : 0 < e := by omega
 rw [quoQ, ← hmdef, ← hedef, ← he]
 rw [← he] at hqr hr1
 rw [hqr] at hmm
 clear hmdef hedef he hqr hneg h0
 generalize hP : q * e = P at *
 have hP1 : (q + 1) * e = P + e := by rw [Int.add_mul, Int.one_mul, hP]
 have hP2 : (-q) * e = -P := by rw [Int.neg_mul, hP]
 have hP3 : (-(q + 1)) * e = -P - e := by rw [Int.neg_mul, hP1]; omega
 cases neg with
 | false =>
  simp only [Bool.false_eq_true, if_false] at hmm ⊢
  subst hmm
  rcases (show mode = 1 ∨ mode = 2 ∨ mode = 3 by omega) with rfl | rfl | rfl
  ·rw [if_pos rfl, div_is hepos (k := q) (by omega) (by omega)]
   simp [awayV, upV]
  ·rw [if_neg (by decide), if_neg (by decide)]
   by_cases h : 2 * r < e
   ·rw [div_twice hepos (k := q) (by omega) (by omega)]
    have : awayV false r e 2 = false := by
     unfold awayV
     split
     ·rfl
     simp; omega
    simp [this, upV]
   rw [div_twice hepos (k := q + 1) (by omega) (by omega)]
   have : awayV false r e 2 = true := by
    unfold awayV
    split
    ·omega
    simp; omega
   simp [this, upV]
  rw [if_neg (by decide), if_pos rfl]
  by_cases h : r = 0
  ·rw [div_is hepos (k := -q) (by omega) (by omega)]
   simp [awayV, upV, h]
  rw [div_is hepos (k := -(q + 1)) (by omega) (by omega)]
  simp [awayV, upV, h]
 | true =>
  simp only [if_true] at hmm ⊢
  subst hmm
  rcases (show mode = 1 ∨ mode = 2 ∨ mode = 3 by omega) with rfl | rfl | rfl
  ·rw [if_pos rfl]
   by_cases h : r = 0
   ·rw [div_is hepos (k := -q) (by omega) (by omega)]
    simp [awayV, upV, h]
   rw [div_is hepos (k := -(q + 1)) (by omega) (by omega)]
   simp [awayV, upV, h]
  ·rw [if_neg (by decide), if_neg (by decide)]
   by_cases h : 2 * r ≤ e
   ·rw [div_twice hepos (k := -q) (by omega) (by omega)]
    have : awayV true r e 2 = false := by
     unfold awayV
     split
     ·rfl
     simp; omega
    simp [this, upV]
   rw [div_twice hepos (k := -(q + 1)) (by omega) (by omega)]
   have : awayV true r e 2 = true := by
    unfold awayV
    split
    ·omega
    simp; omega
   simp [this, upV]
  rw [if_neg (by decide), if_pos rfl, div_is hepos (k := q) (by omega) (by omega)]
  simp [awayV, upV]
end Go.Proofs.YtmopjhbfobmklaaGreatDoor.Q
namespace Go.Proofs.YtmopjhbfobmklaaGreatDoor.Q
set_option linter.unusedVariables false
set_option linter.unusedSimpArgs false
end Go.Proofs.YtmopjhbfobmklaaGreatDoor.Q
namespace Go.Proofs.YtmopjhbfobmklaaGreatDoor.Q
set_option linter.unusedVariables false
set_option linter.unusedSimpArgs false
def textL (n d : Int) : List UInt8 := if validV n d then Lib.itoa n ++ 47 :: Lib.itoa d else []
end Go.Proofs.YtmopjhbfobmklaaGreatDoor.Q
namespace Go.Proofs.YtmopjhbfobmklaaGreatDoor
set_option linter.unusedVariables false
set_option linter.unusedSimpArgs false
structure Pc where
 i : Int
 o : Int
 t : Int
 n : Int
 d : Int
deriving DecidableEq
abbrev mF : Int := 5184000
def ledP (p : Pc) (x : Int) : Int := p.t + ((x - p.i) * p.n) / p.d
def spdB (p : Pc) : Bool := Q.validV p.n p.d && (decide (0 ≤ p.n) && (decide (p.n ≤ 8) && decide (p.d ≤ 8)))
def sglP (p : Pc) : Int :=
 if p.o ≤ p.i then 1 else if p.i < 0 ∨ mF < p.o then 2 else if spdB p = false then 3
 else if p.t < 0 ∨ mF ≤ p.t ∨ mF ≤ ledP p (p.o - 1) then 2 else 0
def befP (q : Option Int) (i : Int) : Bool := match q with | some o => decide (i < o) | none => false
def chkQ : Option Int → List Pc → Int
 | _, [] => 0
 | q, p :: r => if sglP p ≠ 0 then sglP p else if befP q p.i = true then 8 else chkQ (some p.o) r
def chkP (m : List Pc) : Int := if 64 < m.length then 9 else chkQ none m
theorem spd_bd {p : Pc} (h : spdB p = true) : 0 ≤ p.n ∧ p.n ≤ 8 ∧ 1 ≤ p.d ∧ p.d ≤ 8 ∧ Q.validV p.n p.d = true := by
 unfold spdB at h
 simp only [Bool.and_eq_true, decide_eq_true_eq] at h
 have := Q.valid_bd h.1
 exact ⟨h.2.1, h.2.2.1, this.2.2.1, h.2.2.2, h.1⟩
theorem sgl_ok {p : Pc} : sglP p = 0 ↔ p.i < p.o ∧ 0 ≤ p.i ∧ p.o ≤ mF ∧ spdB p = true ∧ 0 ≤ p.t ∧ p.t < mF ∧ ledP p (p.o - 1) < mF := by
 unfold sglP
 constructor
 ·intro h
  split at h
  ·omega
  split at h
  ·omega
  split at h
  ·omega
  split at h
  ·omega
  rename_i h1 h2 h3 h4
  exact ⟨by omega, by omega, by omega, by simpa using h3, by omega, by omega, by omega⟩
 rintro ⟨h1, h2, h3, h4, h5, h6, h7⟩
 rw [if_neg (by omega), if_neg (by omega), if_neg (by simp [h4]), if_neg (by omega)]
def OrdP : List Pc → Prop
 | [] => True
 | p :: r => (∀ q ∈ r, p.o ≤ q.i) ∧ OrdP r
theorem chkQ_cons {q : Option Int} {p : Pc} {r : List Pc} : chkQ q (p :: r) = 0 ↔ sglP p = 0 ∧ befP q p.i = false ∧ chkQ (some p.o) r = 0 := by
 show (if sglP p ≠ 0 then sglP p else if befP q p.i = true then 8 else chkQ (some p.o) r) = 0 ↔ _
 by_cases h : sglP p = 0
 ·rw [if_neg (by simp [h])]
  cases hb : befP q p.i
  ·rw [if_neg (by simp)]; simp [h]
  rw [if_pos rfl]; simp
 rw [if_pos h]; simp [h]
theorem chkQ_ok : ∀ {L : List Pc} {q : Option Int}, chkQ q L = 0 ↔ (∀ p ∈ L, sglP p = 0) ∧ OrdP L ∧ (∀ o, q = some o → ∀ p ∈ L, o ≤ p.i)
 | [], q => ⟨fun _ => ⟨by simp, trivial, by simp⟩, fun _ => rfl⟩
 | p :: r, q => by
  rw [chkQ_cons, chkQ_ok (L := r)]
  constructor
  ·rintro ⟨h1, h2, h3, h4, h5⟩
   have hp := sgl_ok.1 h1
   refine ⟨fun x hx => ?_, ⟨h5 _ rfl, h4⟩, fun o ho x hx => ?_⟩
   ·rcases List.mem_cons.1 hx with rfl | hx
    ·exact h1
    exact h3 x hx
   subst ho
   have h2' : o ≤ p.i := by
    by_cases hh : p.i < o
    ·exfalso; simp [befP, hh] at h2
    omega
   rcases List.mem_cons.1 hx with rfl | hx
   ·exact h2'
   have := h5 _ rfl x hx
   have := hp.1
   omega
  rintro ⟨h1, ⟨h2, h3⟩, h4⟩
  refine ⟨h1 p (List.mem_cons_self ..), ?_, fun x hx => h1 x (List.mem_cons_of_mem _ hx), h3, fun o ho => by cases ho; exact h2⟩
  cases q with
  | none => rfl
  | some o =>
   have := h4 o rfl p (List.mem_cons_self ..)
   simp [befP]; omega
theorem chkP_ok {m : List Pc} : chkP m = 0 ↔ m.length ≤ 64 ∧ (∀ p ∈ m, sglP p = 0) ∧ OrdP m := by
 unfold chkP
 by_cases h : 64 < m.length
 ·rw [if_pos h]
  constructor
  ·intro h; omega
  intro h; omega
 rw [if_neg h, chkQ_ok]
 constructor
 ·rintro ⟨h1, h2, _⟩; exact ⟨by omega, h1, h2⟩
 rintro ⟨_, h1, h2⟩; exact ⟨h1, h2, fun o ho => by cases ho⟩
theorem led_low {p : Pc} (h : spdB p = true) {x : Int} (hx : p.i ≤ x) : p.t ≤ ledP p x := by
 obtain ⟨h1, h2, h3, h4, _⟩ := spd_bd h
 unfold ledP
 have := Int.ediv_nonneg (Int.mul_nonneg (show 0 ≤ x - p.i by omega) h1) (show 0 ≤ p.d by omega)
 omega
def Led (m : List Pc) (x y : Int) : Prop := ∃ p ∈ m, p.i ≤ x ∧ x < p.o ∧ y = ledP p x
def inBp (x : Int) (p : Pc) : Bool := decide (p.i ≤ x) && decide (x < p.o)
theorem inBp_iff {x : Int} {p : Pc} : inBp x p = true ↔ p.i ≤ x ∧ x < p.o := by simp [inBp]
def fndP (m : List Pc) (x : Int) : Int × Bool := match m.find? (inBp x) with | some p => (ledP p x, true) | none => (0, false)
def atP (m : List Pc) (x : Int) : Int × Bool := if chkP m = 0 then fndP m x else (0, false)
theorem at_bad {m : List Pc} (h : chkP m ≠ 0) (x : Int) : atP m x = (0, false) := by unfold atP; rw [if_neg h]
theorem at_good {m : List Pc} (h : chkP m = 0) (x : Int) : atP m x = fndP m x := by unfold atP; rw [if_pos h]
end Go.Proofs.YtmopjhbfobmklaaGreatDoor
namespace Go.Proofs.YtmopjhbfobmklaaGreatDoor
set_option linter.unusedVariables false
set_option linter.unusedSimpArgs false
def reaP (p : Pc) (v : Int) : Int :=
 if v ≤ p.t then p.i else if p.n = 0 then p.o else min (p.i + -((-((v - p.t) * p.d)) / p.n)) p.o
theorem rea_bd {p : Pc} (h : sglP p = 0) (v : Int) : p.i ≤ reaP p v ∧ reaP p v ≤ p.o := by
 obtain ⟨a1, a2, a3, a4, a5, a6, a7⟩ := sgl_ok.1 h
 obtain ⟨h1, h2, h3, h4, _⟩ := spd_bd a4
 unfold reaP
 split
 ·omega
 split
 ·omega
 rename_i hv hn
 have : (-((v - p.t) * p.d)) / p.n ≤ 0 := by
  have hx : 0 ≤ (v - p.t) * p.d := Int.mul_nonneg (by omega) (by omega)
  have := Int.ediv_le_ediv (show 0 < p.n by omega) (show -((v - p.t) * p.d) ≤ 0 by omega)
  simpa using this
 omega
theorem rea_le {p : Pc} (h : sglP p = 0) {v x : Int} (hx1 : p.i ≤ x) (hx2 : x < p.o) : reaP p v ≤ x ↔ v ≤ ledP p x := by
 obtain ⟨a1, a2, a3, a4, a5, a6, a7⟩ := sgl_ok.1 h
 obtain ⟨h1, h2, h3, h4, _⟩ := spd_bd a4
 unfold reaP
 split
 ·have := led_low a4 hx1
  constructor <;> intro <;> omega
 rename_i hv
 split
 ·rename_i hn
  unfold ledP
  rw [hn, Int.mul_zero, Int.zero_ediv]
  constructor <;> intro <;> omega
 rename_i hn
 have hn0 : 0 < p.n := by omega
 have e1 : p.i - x ≤ (-((v - p.t) * p.d)) / p.n ↔ (p.i - x) * p.n ≤ -((v - p.t) * p.d) := Int.le_ediv_iff_mul_le hn0
 have e2 : v - p.t ≤ ((x - p.i) * p.n) / p.d ↔ (v - p.t) * p.d ≤ (x - p.i) * p.n := Int.le_ediv_iff_mul_le (by omega)
 have e3 : (p.i - x) * p.n = -((x - p.i) * p.n) := by rw [← Int.neg_mul]; congr 1; omega
 rw [e3] at e1
 unfold ledP
 generalize (-((v - p.t) * p.d)) / p.n = c at *
 generalize ((x - p.i) * p.n) / p.d = k at *
 generalize (v - p.t) * p.d = X at *
 generalize (x - p.i) * p.n = Y at *
 constructor
 ·intro hh
  have : X ≤ Y := by have := e1.1 (by omega); omega
  have := e2.2 this
  omega
 intro hh
 have : X ≤ Y := e2.1 (by omega)
 have := e1.2 (by omega)
 omega
def preL (m : List Pc) (s : Spn) : List Spn := m.map fun p => ⟨reaP p s.i, reaP p s.o⟩
def preP (m : List Pc) (s : Spn) : List Spn × Int := if chkP m = 0 then (if chkS [s] = 0 then (joinS (preL m s), 0) else ([], chkS [s])) else ([], chkP m)
theorem pre_mem {m : List Pc} (h : chkP m = 0) (s : Spn) (x : Int) : MemS x (preL m s) ↔ ∃ y, Led m x y ∧ s.i ≤ y ∧ y < s.o := by
 obtain ⟨h1, h2, h3⟩ := chkP_ok.1 h
 constructor
 ·rintro ⟨u, hu, hh1, hh2⟩
  obtain ⟨p, hp, rfl⟩ := List.mem_map.1 hu
  have b1 := rea_bd (h2 p hp) s.i
  have b2 := rea_bd (h2 p hp) s.o
  simp only [] at hh1 hh2
  have i1 : p.i ≤ x := by omega
  have i2 : x < p.o := by omega
  refine ⟨_, ⟨p, hp, i1, i2, rfl⟩, (rea_le (h2 p hp) i1 i2).1 hh1, ?_⟩
  have := mt (rea_le (h2 p hp) (v := s.o) i1 i2).2 (by omega)
  omega
 rintro ⟨y, ⟨p, hp, i1, i2, rfl⟩, y1, y2⟩
 refine ⟨_, List.mem_map.2 ⟨p, hp, rfl⟩, (rea_le (h2 p hp) i1 i2).2 y1, ?_⟩
 have := mt (rea_le (h2 p hp) (v := s.o) i1 i2).1 (by omega)
 show x < reaP p s.o
 omega
theorem nor_in {L : List Spn} (hl : L.length ≤ 400) (h : ∀ s ∈ L, 0 ≤ s.i ∧ s.o ≤ mF) : norS L = (joinS L, 0) := by
 unfold norS
 rw [if_neg (by omega), if_neg]
 rw [Bool.not_eq_true, List.any_eq_false]
 intro s hs
 obtain ⟨h1, h2⟩ := h s hs
 have h2 : s.o ≤ 5184000 := h2
 unfold outB
 rw [decide_eq_false (show ¬ (s.i < 0) by omega), decide_eq_false (show ¬ (mT < s.o) by show ¬ (10378368000 < s.o); omega)]
 simp
theorem pre_in {m : List Pc} (h : chkP m = 0) (s : Spn) : (preL m s).length ≤ 400 ∧ ∀ u ∈ preL m s, 0 ≤ u.i ∧ u.o ≤ mF := by
 obtain ⟨h1, h2, _⟩ := chkP_ok.1 h
 refine ⟨by unfold preL; rw [List.length_map]; omega, fun u hu => ?_⟩
 obtain ⟨p, hp, rfl⟩ := List.mem_map.1 hu
 have := sgl_ok.1 (h2 p hp)
 have := rea_bd (h2 p hp) s.i
 have := rea_bd (h2 p hp) s.o
 exact ⟨by show 0 ≤ reaP p s.i; omega, by show reaP p s.o ≤ mF; omega⟩
theorem pre_nor {m : List Pc} (h : chkP m = 0) {s : Spn} (hs : chkS [s] = 0) : norS (preL m s) = preP m s := by
 rw [nor_in (pre_in h s).1 (pre_in h s).2, preP, if_pos h, if_pos hs]
end Go.Proofs.YtmopjhbfobmklaaGreatDoor
namespace Go.Proofs.YtmopjhbfobmklaaGreatDoor
set_option linter.unusedVariables false
set_option linter.unusedSimpArgs false
def DsjP (p q : Pc) : Prop := p.o ≤ q.i ∨ q.o ≤ p.i
instance (p q : Pc) : Decidable (DsjP p q) := inferInstanceAs (Decidable (_ ∨ _))
end Go.Proofs.YtmopjhbfobmklaaGreatDoor
namespace Go.Proofs.YtmopjhbfobmklaaGreatDoor
set_option linter.unusedVariables false
set_option linter.unusedSimpArgs false
def wdA (p : Pc) : List UInt8 := Lib.itoa p.i ++ [45] ++ Lib.itoa p.o
def wdB (p : Pc) : List UInt8 := Lib.itoa p.t ++ [42] ++ Q.textL p.n p.d
def wdP (p : Pc) : List UInt8 := wdA p ++ [62] ++ wdB p
end Go.Proofs.YtmopjhbfobmklaaGreatDoor
