/-
  Maps in plain words. The conditions of the contracts are their hypotheses.
-/
import Derived.Test.YteojlodcafogaaaGreatDoorBs
import Derived.Test.YteojlodcafogaaaGreatDoorBq
import Derived.Test.YteojlodcafogaaaGreatDoorBa
import Derived.Lib.ItoaLen
import Derived.Lib.ParseIntB
import Derived.Lib.Join
namespace Go.Proofs.YteojlodcafogaaaGreatDoor
set_option linter.unusedVariables false
set_option linter.unusedSimpArgs false
structure Pc where
  i : Int
  o : Int
  t : Int
  n : Int
  d : Int
deriving DecidableEq
abbrev mF : Int := 5184000
def ledP (p : Pc) (x : Int) : Int := p.t + ((x - p.i) * p.n) / p.d
def spdB (p : Pc) : Bool := Q.validV p.n p.d && (decide (0 ≤ p.n) && (decide (p.n ≤ 8) && decide (p.d ≤ 8)))
/-- The first error of a piece. -/
def sglP (p : Pc) : Int :=
  if p.o ≤ p.i then 1 else if p.i < 0 ∨ mF < p.o then 2 else if spdB p = false then 3
  else if p.t < 0 ∨ mF ≤ p.t ∨ mF ≤ ledP p (p.o - 1) then 2 else 0
def befP (q : Option Int) (i : Int) : Bool := match q with | some o => decide (i < o) | none => false
def chkQ : Option Int → List Pc → Int
  | _, [] => 0
  | q, p :: r => if sglP p ≠ 0 then sglP p else if befP q p.i = true then 8 else chkQ (some p.o) r
/-- The first error of a map. -/
def chkP (m : List Pc) : Int := if 64 < m.length then 9 else chkQ none m
theorem spd_bd {p : Pc} (h : spdB p = true) : 0 ≤ p.n ∧ p.n ≤ 8 ∧ 1 ≤ p.d ∧ p.d ≤ 8 ∧ Q.validV p.n p.d = true := by
  unfold spdB at h
  simp only [Bool.and_eq_true, decide_eq_true_eq] at h
  have := Q.valid_bd h.1
  exact ⟨h.2.1, h.2.2.1, this.2.2.1, h.2.2.2, h.1⟩
theorem sgl_ok {p : Pc} : sglP p = 0 ↔ p.i < p.o ∧ 0 ≤ p.i ∧ p.o ≤ mF ∧ spdB p = true ∧ 0 ≤ p.t ∧ p.t < mF ∧ ledP p (p.o - 1) < mF := by
  unfold sglP
  constructor
  · intro h
    split at h
    · omega
    · split at h
      · omega
      · split at h
        · omega
        · split at h
          · omega
          · rename_i h1 h2 h3 h4
            exact ⟨by omega, by omega, by omega, by simpa using h3, by omega, by omega, by omega⟩
  · rintro ⟨h1, h2, h3, h4, h5, h6, h7⟩
    rw [if_neg (by omega), if_neg (by omega), if_neg (by simp [h4]), if_neg (by omega)]
/-- The pieces follow each other. -/
def OrdP : List Pc → Prop
  | [] => True
  | p :: r => (∀ q ∈ r, p.o ≤ q.i) ∧ OrdP r
theorem chkQ_cons {q : Option Int} {p : Pc} {r : List Pc} : chkQ q (p :: r) = 0 ↔ sglP p = 0 ∧ befP q p.i = false ∧ chkQ (some p.o) r = 0 := by
  show (if sglP p ≠ 0 then sglP p else if befP q p.i = true then 8 else chkQ (some p.o) r) = 0 ↔ _
  by_cases h : sglP p = 0
  · rw [if_neg (by simp [h])]
    cases hb : befP q p.i
    · rw [if_neg (by simp)]; simp [h]
    · rw [if_pos rfl]; simp
  · rw [if_pos h]; simp [h]
theorem chkQ_ok : ∀ {L : List Pc} {q : Option Int}, chkQ q L = 0 ↔ (∀ p ∈ L, sglP p = 0) ∧ OrdP L ∧ (∀ o, q = some o → ∀ p ∈ L, o ≤ p.i)
  | [], q => ⟨fun _ => ⟨by simp, trivial, by simp⟩, fun _ => rfl⟩
  | p :: r, q => by
    rw [chkQ_cons, chkQ_ok (L := r)]
    constructor
    · rintro ⟨h1, h2, h3, h4, h5⟩
      have hp := sgl_ok.1 h1
      refine ⟨fun x hx => ?_, ⟨h5 _ rfl, h4⟩, fun o ho x hx => ?_⟩
      · rcases List.mem_cons.1 hx with rfl | hx
        · exact h1
        · exact h3 x hx
      · subst ho
        have h2' : o ≤ p.i := by
          by_cases hh : p.i < o
          · exfalso; simp [befP, hh] at h2
          · omega
        rcases List.mem_cons.1 hx with rfl | hx
        · exact h2'
        · have := h5 _ rfl x hx
          have := hp.1
          omega
    · rintro ⟨h1, ⟨h2, h3⟩, h4⟩
      refine ⟨h1 p (List.mem_cons_self ..), ?_, fun x hx => h1 x (List.mem_cons_of_mem _ hx), h3, fun o ho => by cases ho; exact h2⟩
      cases q with
      | none => rfl
      | some o =>
        have := h4 o rfl p (List.mem_cons_self ..)
        simp [befP]; omega
theorem chkP_ok {m : List Pc} : chkP m = 0 ↔ m.length ≤ 64 ∧ (∀ p ∈ m, sglP p = 0) ∧ OrdP m := by
  unfold chkP
  by_cases h : 64 < m.length
  · rw [if_pos h]
    constructor
    · intro h; omega
    · intro h; omega
  · rw [if_neg h, chkQ_ok]
    constructor
    · rintro ⟨h1, h2, _⟩; exact ⟨by omega, h1, h2⟩
    · rintro ⟨_, h1, h2⟩; exact ⟨h1, h2, fun o ho => by cases ho⟩
theorem led_low {p : Pc} (h : spdB p = true) {x : Int} (hx : p.i ≤ x) : p.t ≤ ledP p x := by
  obtain ⟨h1, h2, h3, h4, _⟩ := spd_bd h
  unfold ledP
  have := Int.ediv_nonneg (Int.mul_nonneg (show 0 ≤ x - p.i by omega) h1) (show 0 ≤ p.d by omega)
  omega
theorem led_mono {p : Pc} (h : spdB p = true) {x y : Int} (hx : x ≤ y) : ledP p x ≤ ledP p y := by
  obtain ⟨h1, h2, h3, h4, _⟩ := spd_bd h
  unfold ledP
  have := Int.ediv_le_ediv (show 0 < p.d by omega) (Int.mul_le_mul_of_nonneg_right (show x - p.i ≤ y - p.i by omega) h1)
  omega
/-- A piece that holds a frame leads it into the second time line. -/
theorem led_in {p : Pc} (h : sglP p = 0) {x : Int} (h1 : p.i ≤ x) (h2 : x < p.o) : 0 ≤ ledP p x ∧ ledP p x < mF := by
  obtain ⟨a1, a2, a3, a4, a5, a6, a7⟩ := sgl_ok.1 h
  have := led_low a4 h1
  have := led_mono a4 (show x ≤ p.o - 1 by omega)
  omega
/-- x is led to y. -/
def Led (m : List Pc) (x y : Int) : Prop := ∃ p ∈ m, p.i ≤ x ∧ x < p.o ∧ y = ledP p x
theorem ord_one : ∀ {m : List Pc}, OrdP m → (∀ p ∈ m, p.i < p.o) → ∀ {p q : Pc} {x : Int}, p ∈ m → q ∈ m → p.i ≤ x → x < p.o → q.i ≤ x → x < q.o → p = q
  | [], _, _, p, q, x, hp, _, _, _, _, _ => by cases hp
  | a :: r, h, hn, p, q, x, hp, hq, h1, h2, h3, h4 => by
    rcases List.mem_cons.1 hp with e1 | hp1
    · rcases List.mem_cons.1 hq with e2 | hq1
      · rw [e1, e2]
      · subst e1; have := h.1 q hq1; omega
    · rcases List.mem_cons.1 hq with e2 | hq1
      · subst e2; have := h.1 p hp1; omega
      · exact ord_one h.2 (fun p hp => hn p (List.mem_cons_of_mem _ hp)) hp1 hq1 h1 h2 h3 h4
theorem led_one {m : List Pc} (h : OrdP m) (hn : ∀ p ∈ m, p.i < p.o) {x y z : Int} (hy : Led m x y) (hz : Led m x z) : y = z := by
  obtain ⟨p, hp, p1, p2, rfl⟩ := hy
  obtain ⟨q, hq, q1, q2, rfl⟩ := hz
  rw [ord_one h hn hp hq p1 p2 q1 q2]
theorem ok_pos {m : List Pc} (h : ∀ p ∈ m, sglP p = 0) : ∀ p ∈ m, p.i < p.o := fun p hp => (sgl_ok.1 (h p hp)).1
def inB (x : Int) (p : Pc) : Bool := decide (p.i ≤ x) && decide (x < p.o)
theorem inB_iff {x : Int} {p : Pc} : inB x p = true ↔ p.i ≤ x ∧ x < p.o := by simp [inB]
/-- Where a frame is led, and whether it is. -/
def fndP (m : List Pc) (x : Int) : Int × Bool := match m.find? (inB x) with | some p => (ledP p x, true) | none => (0, false)
def atP (m : List Pc) (x : Int) : Int × Bool := if chkP m = 0 then fndP m x else (0, false)
theorem fnd_led (m : List Pc) (x : Int) : (∃ y, Led m x y ∧ fndP m x = (y, true)) ∨ ((∀ y, ¬ Led m x y) ∧ fndP m x = (0, false)) := by
  unfold fndP
  cases h : m.find? (inB x) with
  | some p =>
    have h1 := List.find?_some h
    have h2 := List.mem_of_find?_eq_some h
    rw [inB_iff] at h1
    exact .inl ⟨_, ⟨p, h2, h1.1, h1.2, rfl⟩, rfl⟩
  | none =>
    refine .inr ⟨?_, rfl⟩
    rintro y ⟨p, hp, h1, h2, _⟩
    have := List.find?_eq_none.1 h p hp
    exact this (inB_iff.2 ⟨h1, h2⟩)
theorem at_bad {m : List Pc} (h : chkP m ≠ 0) (x : Int) : atP m x = (0, false) := by unfold atP; rw [if_neg h]
theorem at_good {m : List Pc} (h : chkP m = 0) (x : Int) : atP m x = fndP m x := by unfold atP; rw [if_pos h]
theorem at_led {m : List Pc} (h : chkP m = 0) {x y : Int} : Led m x y ↔ atP m x = (y, true) := by
  obtain ⟨h1, h2, h3⟩ := chkP_ok.1 h
  rw [at_good h]
  rcases fnd_led m x with ⟨z, hz, e⟩ | ⟨hn, e⟩
  · rw [e]
    constructor
    · intro hy; rw [led_one h3 (ok_pos h2) hz hy]
    · intro he
      cases he
      exact hz
  · rw [e]
    constructor
    · intro hy; exact (hn y hy).elim
    · intro he; cases he
theorem at_two (m : List Pc) (x : Int) : (atP m x).2 = true ∨ atP m x = (0, false) := by
  by_cases h : chkP m = 0
  · rw [at_good h]
    rcases fnd_led m x with ⟨z, hz, e⟩ | ⟨hn, e⟩
    · rw [e]; exact .inl rfl
    · exact .inr e
  · exact .inr (at_bad h x)
end Go.Proofs.YteojlodcafogaaaGreatDoor
namespace Go.Proofs.YteojlodcafogaaaGreatDoor
set_option linter.unusedVariables false
set_option linter.unusedSimpArgs false
def domL (m : List Pc) : List Spn := m.map fun p => ⟨p.i, p.o⟩
def domP (m : List Pc) : List Spn × Int := if chkP m = 0 then (joinS (domL m), 0) else ([], chkP m)
theorem dom_mem (m : List Pc) (x : Int) : MemS x (domL m) ↔ ∃ y, Led m x y := by
  constructor
  · rintro ⟨s, hs, h⟩
    obtain ⟨p, hp, rfl⟩ := List.mem_map.1 hs
    exact ⟨_, p, hp, h.1, h.2, rfl⟩
  · rintro ⟨y, p, hp, h1, h2, _⟩
    exact ⟨_, List.mem_map.2 ⟨p, hp, rfl⟩, h1, h2⟩
/-- The first frame of a piece that is led to v or beyond; its end if there is none. -/
def reaP (p : Pc) (v : Int) : Int :=
  if v ≤ p.t then p.i else if p.n = 0 then p.o else min (p.i + -((-((v - p.t) * p.d)) / p.n)) p.o
theorem rea_bd {p : Pc} (h : sglP p = 0) (v : Int) : p.i ≤ reaP p v ∧ reaP p v ≤ p.o := by
  obtain ⟨a1, a2, a3, a4, a5, a6, a7⟩ := sgl_ok.1 h
  obtain ⟨h1, h2, h3, h4, _⟩ := spd_bd a4
  unfold reaP
  split
  · omega
  · split
    · omega
    · rename_i hv hn
      have : (-((v - p.t) * p.d)) / p.n ≤ 0 := by
        have hx : 0 ≤ (v - p.t) * p.d := Int.mul_nonneg (by omega) (by omega)
        have := Int.ediv_le_ediv (show 0 < p.n by omega) (show -((v - p.t) * p.d) ≤ 0 by omega)
        simpa using this
      omega
theorem rea_le {p : Pc} (h : sglP p = 0) {v x : Int} (hx1 : p.i ≤ x) (hx2 : x < p.o) : reaP p v ≤ x ↔ v ≤ ledP p x := by
  obtain ⟨a1, a2, a3, a4, a5, a6, a7⟩ := sgl_ok.1 h
  obtain ⟨h1, h2, h3, h4, _⟩ := spd_bd a4
  unfold reaP
  split
  · have := led_low a4 hx1
    constructor <;> intro <;> omega
  · rename_i hv
    split
    · rename_i hn
      unfold ledP
      rw [hn, Int.mul_zero, Int.zero_ediv]
      constructor <;> intro <;> omega
    · rename_i hn
      have hn0 : 0 < p.n := by omega
      have e1 : p.i - x ≤ (-((v - p.t) * p.d)) / p.n ↔ (p.i - x) * p.n ≤ -((v - p.t) * p.d) := Int.le_ediv_iff_mul_le hn0
      have e2 : v - p.t ≤ ((x - p.i) * p.n) / p.d ↔ (v - p.t) * p.d ≤ (x - p.i) * p.n := Int.le_ediv_iff_mul_le (by omega)
      have e3 : (p.i - x) * p.n = -((x - p.i) * p.n) := by rw [← Int.neg_mul]; congr 1; omega
      rw [e3] at e1
      unfold ledP
      generalize (-((v - p.t) * p.d)) / p.n = c at *
      generalize ((x - p.i) * p.n) / p.d = k at *
      generalize (v - p.t) * p.d = X at *
      generalize (x - p.i) * p.n = Y at *
      constructor
      · intro hh
        have : X ≤ Y := by have := e1.1 (by omega); omega
        have := e2.2 this
        omega
      · intro hh
        have : X ≤ Y := e2.1 (by omega)
        have := e1.2 (by omega)
        omega
def preL (m : List Pc) (s : Spn) : List Spn := m.map fun p => ⟨reaP p s.i, reaP p s.o⟩
def preP (m : List Pc) (s : Spn) : List Spn × Int := if chkP m = 0 then (if chkS [s] = 0 then (joinS (preL m s), 0) else ([], chkS [s])) else ([], chkP m)
theorem pre_mem {m : List Pc} (h : chkP m = 0) (s : Spn) (x : Int) : MemS x (preL m s) ↔ ∃ y, Led m x y ∧ s.i ≤ y ∧ y < s.o := by
  obtain ⟨h1, h2, h3⟩ := chkP_ok.1 h
  constructor
  · rintro ⟨u, hu, hh1, hh2⟩
    obtain ⟨p, hp, rfl⟩ := List.mem_map.1 hu
    have b1 := rea_bd (h2 p hp) s.i
    have b2 := rea_bd (h2 p hp) s.o
    simp only [] at hh1 hh2
    have i1 : p.i ≤ x := by omega
    have i2 : x < p.o := by omega
    refine ⟨_, ⟨p, hp, i1, i2, rfl⟩, (rea_le (h2 p hp) i1 i2).1 hh1, ?_⟩
    have := mt (rea_le (h2 p hp) (v := s.o) i1 i2).2 (by omega)
    omega
  · rintro ⟨y, ⟨p, hp, i1, i2, rfl⟩, y1, y2⟩
    refine ⟨_, List.mem_map.2 ⟨p, hp, rfl⟩, (rea_le (h2 p hp) i1 i2).2 y1, ?_⟩
    have := mt (rea_le (h2 p hp) (v := s.o) i1 i2).1 (by omega)
    show x < reaP p s.o
    omega
def imgO (p : Pc) (s : Spn) : List Spn := if max p.i s.i < min p.o s.o then [⟨ledP p (max p.i s.i), ledP p (min p.o s.o - 1) + 1⟩] else []
def imgL (m : List Pc) (s : Spn) : List Spn := m.flatMap fun p => imgO p s
def fstB (m : List Pc) : Bool := m.any fun p => decide (p.d < p.n)
def imgP (m : List Pc) (s : Spn) : List Spn × Int := if chkP m = 0 then (if chkS [s] = 0 then (if fstB m = true then ([], 3) else (joinS (imgL m s), 0)) else ([], chkS [s])) else ([], chkP m)
theorem img_mem {m : List Pc} (h : chkP m = 0) {s : Spn} {x y : Int} (hl : Led m x y) (h1 : s.i ≤ x) (h2 : x < s.o) : MemS y (imgL m s) := by
  obtain ⟨p, hp, i1, i2, rfl⟩ := hl
  obtain ⟨_, g2, _⟩ := chkP_ok.1 h
  have a4 := (sgl_ok.1 (g2 p hp)).2.2.2.1
  refine ⟨⟨ledP p (max p.i s.i), ledP p (min p.o s.o - 1) + 1⟩, List.mem_flatMap.2 ⟨p, hp, ?_⟩, ?_, ?_⟩
  · unfold imgO
    rw [if_pos (by omega)]
    exact List.mem_singleton.2 rfl
  · exact led_mono a4 (by omega)
  · have := led_mono a4 (show x ≤ min p.o s.o - 1 by omega)
    show _ < ledP p (min p.o s.o - 1) + 1
    omega
/-- Spans within the second time line are normed without an error. -/
theorem nor_in {L : List Spn} (hl : L.length ≤ 400) (h : ∀ s ∈ L, 0 ≤ s.i ∧ s.o ≤ mF) : norS L = (joinS L, 0) := by
  unfold norS
  rw [if_neg (by omega), if_neg]
  rw [Bool.not_eq_true, List.any_eq_false]
  intro s hs
  obtain ⟨h1, h2⟩ := h s hs
  have h2 : s.o ≤ 5184000 := h2
  unfold outB
  rw [decide_eq_false (show ¬ (s.i < 0) by omega), decide_eq_false (show ¬ (mT < s.o) by show ¬ (10378368000 < s.o); omega)]
  simp
theorem dom_in {m : List Pc} (h : chkP m = 0) : (domL m).length ≤ 400 ∧ ∀ s ∈ domL m, 0 ≤ s.i ∧ s.o ≤ mF := by
  obtain ⟨h1, h2, _⟩ := chkP_ok.1 h
  refine ⟨by unfold domL; rw [List.length_map]; omega, fun s hs => ?_⟩
  obtain ⟨p, hp, rfl⟩ := List.mem_map.1 hs
  have := sgl_ok.1 (h2 p hp)
  exact ⟨this.2.1, this.2.2.1⟩
theorem pre_in {m : List Pc} (h : chkP m = 0) (s : Spn) : (preL m s).length ≤ 400 ∧ ∀ u ∈ preL m s, 0 ≤ u.i ∧ u.o ≤ mF := by
  obtain ⟨h1, h2, _⟩ := chkP_ok.1 h
  refine ⟨by unfold preL; rw [List.length_map]; omega, fun u hu => ?_⟩
  obtain ⟨p, hp, rfl⟩ := List.mem_map.1 hu
  have := sgl_ok.1 (h2 p hp)
  have := rea_bd (h2 p hp) s.i
  have := rea_bd (h2 p hp) s.o
  exact ⟨by show 0 ≤ reaP p s.i; omega, by show reaP p s.o ≤ mF; omega⟩
theorem imgO_len (p : Pc) (s : Spn) : (imgO p s).length ≤ 1 := by
  unfold imgO
  split <;> simp
theorem imgL_len : ∀ (m : List Pc) (s : Spn), (imgL m s).length ≤ m.length
  | [], _ => by simp [imgL]
  | p :: r, s => by
    have := imgL_len r s
    have := imgO_len p s
    unfold imgL at *
    rw [List.flatMap_cons, List.length_append, List.length_cons]
    omega
theorem img_in {m : List Pc} (h : chkP m = 0) (s : Spn) : (imgL m s).length ≤ 400 ∧ ∀ u ∈ imgL m s, 0 ≤ u.i ∧ u.o ≤ mF := by
  obtain ⟨h1, h2, _⟩ := chkP_ok.1 h
  refine ⟨by have := imgL_len m s; omega, fun u hu => ?_⟩
  obtain ⟨p, hp, hu⟩ := List.mem_flatMap.1 hu
  unfold imgO at hu
  split at hu
  · rw [List.mem_singleton] at hu
    subst hu
    rename_i hlt
    have := led_in (h2 p hp) (x := max p.i s.i) (by omega) (by omega)
    have := led_in (h2 p hp) (x := min p.o s.o - 1) (by omega) (by omega)
    exact ⟨by show 0 ≤ ledP p _; omega, by show ledP p (min p.o s.o - 1) + 1 ≤ mF; omega⟩
  · cases hu
theorem dom_nor {m : List Pc} (h : chkP m = 0) : norS (domL m) = domP m := by
  rw [nor_in (dom_in h).1 (dom_in h).2, domP, if_pos h]
theorem pre_nor {m : List Pc} (h : chkP m = 0) {s : Spn} (hs : chkS [s] = 0) : norS (preL m s) = preP m s := by
  rw [nor_in (pre_in h s).1 (pre_in h s).2, preP, if_pos h, if_pos hs]
theorem img_nor {m : List Pc} (h : chkP m = 0) {s : Spn} (hs : chkS [s] = 0) (hf : fstB m = false) : norS (imgL m s) = imgP m s := by
  rw [nor_in (img_in h s).1 (img_in h s).2, imgP, if_pos h, if_pos hs, if_neg (by simp [hf])]
/-- TimemapLeads in plain words. -/
theorem leads_pre (m : List Pc) (s : Spn) (x : Int) (h : (preP m s).2 = 0) : MemS x (preP m s).1 ↔ ((atP m x).2 = true ∧ s.i ≤ (atP m x).1 ∧ (atP m x).1 < s.o) := by
  unfold preP at h ⊢
  split at h
  · rename_i h0
    split at h
    · rename_i h1
      rw [if_pos h0, if_pos h1]
      show MemS x (joinS (preL m s)) ↔ _
      rw [joinS_mem, pre_mem h0]
      constructor
      · rintro ⟨y, hy, y1, y2⟩
        rw [(at_led h0).1 hy]
        exact ⟨rfl, y1, y2⟩
      · rintro ⟨g1, g2, g3⟩
        exact ⟨_, (at_led h0).2 (show atP m x = ((atP m x).1, true) by rw [← g1]), g2, g3⟩
    · exact absurd h (by assumption)
  · exact absurd h (by assumption)
theorem leads_img (m : List Pc) (s : Spn) (x : Int) (h : (imgP m s).2 = 0) (ha : (atP m x).2 = true) (h1 : s.i ≤ x) (h2 : x < s.o) : MemS (atP m x).1 (imgP m s).1 := by
  unfold imgP at h ⊢
  split at h
  · rename_i h0
    split at h
    · rename_i hs
      split at h
      · exact absurd h (by decide)
      · rename_i hf
        rw [if_pos h0, if_pos hs, if_neg hf]
        show MemS _ (joinS (imgL m s))
        rw [joinS_mem]
        exact img_mem h0 ((at_led h0).2 (show atP m x = ((atP m x).1, true) by rw [← ha])) h1 h2
    · exact absurd h (by assumption)
  · exact absurd h (by assumption)
theorem leads_dom (m : List Pc) (x : Int) (h : (domP m).2 = 0) : MemS x (domP m).1 ↔ (atP m x).2 = true := by
  unfold domP at h ⊢
  split at h
  · rename_i h0
    rw [if_pos h0]
    show MemS x (joinS (domL m)) ↔ _
    rw [joinS_mem, dom_mem]
    constructor
    · rintro ⟨y, hy⟩
      rw [(at_led h0).1 hy]
    · intro g
      exact ⟨_, (at_led h0).2 (show atP m x = ((atP m x).1, true) by rw [← g])⟩
  · exact absurd h (by assumption)
end Go.Proofs.YteojlodcafogaaaGreatDoor
namespace Go.Proofs.YteojlodcafogaaaGreatDoor
set_option linter.unusedVariables false
set_option linter.unusedSimpArgs false
def plnO (p : Pc) : Bool := decide (p.n = 1) && decide (p.d = 1)
def plnB (m : List Pc) : Bool := m.all plnO
theorem pln_led {p : Pc} (h : plnO p = true) (x : Int) : ledP p x = p.t + (x - p.i) := by
  unfold plnO at h
  simp only [Bool.and_eq_true, decide_eq_true_eq] at h
  unfold ledP
  rw [h.1, h.2, Int.mul_one, Int.ediv_one]
theorem pln_one {m : List Pc} (h : plnB m = true) : ∀ p ∈ m, plnO p = true := by
  intro p hp
  exact List.all_eq_true.1 h p hp
/-! one list of pieces, put in order and joined -/
def insP (L : List Pc) (p : Pc) : List Pc := L.takeWhile (fun q => decide (q.i < p.i)) ++ p :: L.dropWhile (fun q => decide (q.i < p.i))
def srtP (L : List Pc) : List Pc := L.foldl insP []
def AscP : List Pc → Prop
  | [] => True
  | p :: r => (∀ q ∈ r, p.i ≤ q.i) ∧ AscP r
theorem insP_of (p q : Pc) (L : List Pc) : insP (q :: L) p = if q.i < p.i then q :: insP L p else p :: q :: L := by
  unfold insP
  by_cases h : q.i < p.i
  · rw [if_pos h, List.takeWhile_cons, List.dropWhile_cons]
    simp [h]
  · rw [if_neg h, List.takeWhile_cons, List.dropWhile_cons]
    simp [h]
theorem insP_perm (p : Pc) : ∀ L : List Pc, (insP L p).Perm (p :: L)
  | [] => List.Perm.refl _
  | q :: L => by
    rw [insP_of]
    split
    · exact ((insP_perm p L).cons q).trans (List.Perm.swap p q L)
    · exact List.Perm.refl _
theorem insP_asc (p : Pc) : ∀ {L : List Pc}, AscP L → AscP (insP L p)
  | [], _ => ⟨fun q hq => (by cases hq), trivial⟩
  | q :: L, h => by
    rw [insP_of]
    split
    · rename_i hlt
      refine ⟨fun x hx => ?_, insP_asc p h.2⟩
      rcases List.mem_cons.1 ((insP_perm p L).mem_iff.1 hx) with rfl | hx
      · omega
      · exact h.1 x hx
    · rename_i hlt
      refine ⟨fun x hx => ?_, h⟩
      rcases List.mem_cons.1 hx with rfl | hx
      · omega
      · have := h.1 x hx; omega
theorem foldl_ins : ∀ (L out : List Pc), AscP out → AscP (L.foldl insP out) ∧ (L.foldl insP out).Perm (L ++ out)
  | [], out, h => ⟨h, List.Perm.refl _⟩
  | p :: L, out, h => by
    obtain ⟨h1, h2⟩ := foldl_ins L (insP out p) (insP_asc p h)
    refine ⟨h1, h2.trans ?_⟩
    exact ((insP_perm p out).append_left L).trans List.perm_middle
theorem srtP_asc (L : List Pc) : AscP (srtP L) := (foldl_ins L [] trivial).1
theorem srtP_perm (L : List Pc) : (srtP L).Perm L := by
  have := (foldl_ins L [] trivial).2
  rwa [List.append_nil] at this
theorem foldl_ins_len : ∀ (L out : List Pc), (L.foldl insP out).length = out.length + L.length
  | [], out => rfl
  | p :: L, out => by
    have := foldl_ins_len L (insP out p)
    have h2 := (insP_perm p out).length_eq
    rw [List.foldl_cons, this, h2]
    simp; omega
/-- One order of begins that differ. -/
def DifP : List Pc → Prop := List.Pairwise fun p q => p.i ≠ q.i
theorem dif_perm {L M : List Pc} (h : L.Perm M) : DifP L ↔ DifP M := h.pairwise_iff (fun h => Ne.symm h)
theorem asc_one : ∀ {L M : List Pc}, L.Perm M → AscP L → AscP M → DifP L → L = M
  | [], M, hp, _, _, _ => (List.Perm.nil_eq hp)
  | p :: L, [], hp, _, _, _ => absurd hp.length_eq (by simp)
  | p :: L, q :: M, hp, hl, hm, hd => by
    have e : p = q := by
      have h1 : p ∈ q :: M := hp.mem_iff.1 (List.mem_cons_self ..)
      have h2 : q ∈ p :: L := hp.mem_iff.2 (List.mem_cons_self ..)
      rcases List.mem_cons.1 h1 with h1 | h1
      · exact h1
      · rcases List.mem_cons.1 h2 with h2 | h2
        · exact h2.symm
        · have a := hl.1 q h2
          have b := hm.1 p h1
          have c := (List.pairwise_cons.1 hd).1 q h2
          omega
    subst e
    rw [asc_one (List.Perm.cons_inv hp) hl.2 hm.2 (List.pairwise_cons.1 hd).2]
theorem ord_asc : ∀ {L : List Pc}, OrdP L → (∀ p ∈ L, p.i < p.o) → AscP L ∧ DifP L
  | [], _, _ => ⟨trivial, List.Pairwise.nil⟩
  | p :: L, h, hn => by
    have hp := hn p (List.mem_cons_self ..)
    obtain ⟨h1, h2⟩ := ord_asc h.2 (fun q hq => hn q (List.mem_cons_of_mem _ hq))
    exact ⟨⟨fun q hq => by have := h.1 q hq; omega, h1⟩, List.pairwise_cons.2 ⟨fun q hq => by have := h.1 q hq; omega, h2⟩⟩
/-- A piece more behind a list that is held the last first: joined to the last one where it goes on. -/
def onB (l p : Pc) : Bool := decide (l.o = p.i) && decide (l.t - l.i = p.t - p.i)
def jstP (out : List Pc) (p : Pc) : List Pc :=
  match out with
  | [] => [p]
  | l :: r => if onB l p = true then { l with o := p.o } :: r else p :: l :: r
def jndP (L : List Pc) : List Pc := (L.foldl jstP []).reverse
def jonP (L : List Pc) : List Pc := jndP (srtP L)
theorem jst_len (out : List Pc) (p : Pc) : (jstP out p).length ≤ out.length + 1 := by
  unfold jstP
  cases out with
  | nil => simp
  | cons l r => simp only []; split <;> simp
theorem foldl_jst_len : ∀ (L out : List Pc), (L.foldl jstP out).length ≤ out.length + L.length
  | [], out => by simp
  | p :: L, out => by
    have h1 := foldl_jst_len L (jstP out p)
    have h2 := jst_len out p
    rw [List.foldl_cons, List.length_cons]
    omega
theorem jonP_len (L : List Pc) : (jonP L).length ≤ L.length := by
  have h1 := foldl_jst_len (srtP L) []
  have h2 := (srtP_perm L).length_eq
  unfold jonP jndP
  rw [List.length_reverse]
  simp at h1
  omega
/-- Plain pieces in order, the last first. -/
def OrdR : List Pc → Prop
  | [] => True
  | p :: r => (∀ q ∈ r, q.o ≤ p.i) ∧ OrdR r
theorem ord_append : ∀ {L M : List Pc}, OrdP L → OrdP M → (∀ p ∈ L, ∀ q ∈ M, p.o ≤ q.i) → OrdP (L ++ M)
  | [], _, _, hm, _ => hm
  | p :: L, M, hl, hm, h => by
    refine ⟨fun q hq => ?_, ord_append hl.2 hm (fun a ha => h a (List.mem_cons_of_mem _ ha))⟩
    rcases List.mem_append.1 hq with hq | hq
    · exact hl.1 q hq
    · exact h p (List.mem_cons_self ..) q hq
theorem ordR_rev : ∀ {L : List Pc}, OrdR L → OrdP L.reverse
  | [], _ => trivial
  | p :: L, h => by
    rw [List.reverse_cons]
    refine ord_append (ordR_rev h.2) ⟨fun q hq => (by cases hq), trivial⟩ (fun a ha q hq => ?_)
    rcases List.mem_singleton.1 hq with rfl
    exact h.1 a (List.mem_reverse.1 ha)
/-- A good plain piece. -/
def GodP (p : Pc) : Prop := sglP p = 0 ∧ plnO p = true
theorem god_iff {p : Pc} (h : plnO p = true) : sglP p = 0 ↔ p.i < p.o ∧ 0 ≤ p.i ∧ p.o ≤ mF ∧ 0 ≤ p.t ∧ p.t + (p.o - p.i) ≤ mF := by
  have hs : spdB p = true := by
    have h' := h
    unfold plnO at h'
    simp only [Bool.and_eq_true, decide_eq_true_eq] at h'
    unfold spdB
    rw [h'.1, h'.2]
    decide
  rw [sgl_ok, pln_led h]
  show _ ∧ _ ∧ p.o ≤ 5184000 ∧ _ ∧ _ ∧ p.t < 5184000 ∧ p.t + (p.o - 1 - p.i) < 5184000 ↔ _ ∧ _ ∧ p.o ≤ 5184000 ∧ _ ∧ p.t + (p.o - p.i) ≤ 5184000
  constructor
  · rintro ⟨h1, h2, h3, _, h4, h5, h6⟩
    exact ⟨h1, h2, h3, h4, by omega⟩
  · rintro ⟨h1, h2, h3, h4, h5⟩
    exact ⟨h1, h2, h3, hs, h4, by omega, by omega⟩
theorem on_join {l p : Pc} (hl : GodP l) (hp : GodP p) (h : onB l p = true) : GodP { l with o := p.o } ∧ ∀ x y, (({ l with o := p.o } : Pc).i ≤ x ∧ x < ({ l with o := p.o } : Pc).o ∧ y = ledP { l with o := p.o } x) ↔ (l.i ≤ x ∧ x < l.o ∧ y = ledP l x) ∨ (p.i ≤ x ∧ x < p.o ∧ y = ledP p x) := by
  unfold onB at h
  simp only [Bool.and_eq_true, decide_eq_true_eq] at h
  obtain ⟨h1, h2⟩ := h
  have a := (god_iff hl.2).1 hl.1
  have b := (god_iff hp.2).1 hp.1
  have hpl : plnO ({ l with o := p.o } : Pc) = true := hl.2
  have a5 : l.t + (l.o - l.i) ≤ 5184000 := a.2.2.2.2
  have b5 : p.t + (p.o - p.i) ≤ 5184000 := b.2.2.2.2
  refine ⟨⟨(god_iff hpl).2 ⟨by show l.i < p.o; omega, a.2.1, b.2.2.1, a.2.2.2.1, by show l.t + (p.o - l.i) ≤ 5184000; omega⟩, hpl⟩, fun x y => ?_⟩
  rw [pln_led hpl, pln_led hl.2, pln_led hp.2]
  show l.i ≤ x ∧ x < p.o ∧ y = l.t + (x - l.i) ↔ _
  omega
theorem jst_ok {out : List Pc} {p : Pc} (ho : OrdR out) (hg : ∀ q ∈ out, GodP q) (hp : GodP p) (hl : ∀ q ∈ out, q.o ≤ p.i) :
    OrdR (jstP out p) ∧ (∀ q ∈ jstP out p, GodP q) ∧ (∀ q ∈ jstP out p, q.o ≤ p.o) ∧ ∀ x y, Led (jstP out p) x y ↔ Led out x y ∨ (p.i ≤ x ∧ x < p.o ∧ y = ledP p x) := by
  have hp1 := ((god_iff hp.2).1 hp.1).1
  cases out with
  | nil =>
    refine ⟨⟨fun q hq => (by cases hq), trivial⟩, fun q hq => ?_, fun q hq => ?_, fun x y => ?_⟩
    · rcases List.mem_singleton.1 hq with rfl; exact hp
    · rcases List.mem_singleton.1 hq with rfl; exact Int.le_refl _
    · constructor
      · rintro ⟨q, hq, h⟩
        rcases List.mem_singleton.1 hq with rfl
        exact .inr h
      · rintro (⟨q, hq, h⟩ | h)
        · cases hq
        · exact ⟨p, List.mem_singleton.2 rfl, h⟩
  | cons l r =>
    have hll := hl l (List.mem_cons_self ..)
    have hlg := hg l (List.mem_cons_self ..)
    have hl1 := ((god_iff hlg.2).1 hlg.1).1
    unfold jstP
    simp only []
    by_cases h : onB l p = true
    · rw [if_pos h]
      obtain ⟨g1, g2⟩ := on_join hlg hp h
      refine ⟨⟨ho.1, ho.2⟩, fun q hq => ?_, fun q hq => ?_, fun x y => ?_⟩
      · rcases List.mem_cons.1 hq with rfl | hq
        · exact g1
        · exact hg q (List.mem_cons_of_mem _ hq)
      · rcases List.mem_cons.1 hq with rfl | hq
        · exact Int.le_refl _
        · have := hl q (List.mem_cons_of_mem _ hq); omega
      · constructor
        · rintro ⟨q, hq, hh⟩
          rcases List.mem_cons.1 hq with rfl | hq
          · rcases (g2 x y).1 hh with hh | hh
            · exact .inl ⟨l, List.mem_cons_self .., hh⟩
            · exact .inr hh
          · exact .inl ⟨q, List.mem_cons_of_mem _ hq, hh⟩
        · rintro (⟨q, hq, hh⟩ | hh)
          · rcases List.mem_cons.1 hq with rfl | hq
            · exact ⟨_, List.mem_cons_self .., (g2 x y).2 (.inl hh)⟩
            · exact ⟨q, List.mem_cons_of_mem _ hq, hh⟩
          · exact ⟨_, List.mem_cons_self .., (g2 x y).2 (.inr hh)⟩
    · rw [if_neg h]
      refine ⟨⟨hl, ho⟩, fun q hq => ?_, fun q hq => ?_, fun x y => ?_⟩
      · rcases List.mem_cons.1 hq with rfl | hq
        · exact hp
        · exact hg q hq
      · rcases List.mem_cons.1 hq with rfl | hq
        · exact Int.le_refl _
        · have := hl q hq; omega
      · constructor
        · rintro ⟨q, hq, hh⟩
          rcases List.mem_cons.1 hq with rfl | hq
          · exact .inr hh
          · exact .inl ⟨q, hq, hh⟩
        · rintro (⟨q, hq, hh⟩ | hh)
          · exact ⟨q, List.mem_cons_of_mem _ hq, hh⟩
          · exact ⟨p, List.mem_cons_self .., hh⟩
theorem foldl_jst : ∀ {L out : List Pc}, OrdP L → (∀ p ∈ L, GodP p) → OrdR out → (∀ q ∈ out, GodP q) → (∀ q ∈ out, ∀ p ∈ L, q.o ≤ p.i) →
    OrdR (L.foldl jstP out) ∧ (∀ q ∈ L.foldl jstP out, GodP q) ∧ ∀ x y, Led (L.foldl jstP out) x y ↔ Led out x y ∨ Led L x y
  | [], out, _, _, h3, h4, _ => ⟨h3, h4, fun x y => ⟨fun h => .inl h, fun h => h.elim id (fun ⟨p, hp, _⟩ => (by cases hp))⟩⟩
  | p :: L, out, h1, h2, h3, h4, h5 => by
    obtain ⟨j1, j2, j3, j4⟩ := jst_ok h3 h4 (h2 p (List.mem_cons_self ..)) (fun q hq => h5 q hq p (List.mem_cons_self ..))
    obtain ⟨k1, k2, k3⟩ := foldl_jst h1.2 (fun q hq => h2 q (List.mem_cons_of_mem _ hq)) j1 j2 (fun q hq r hr => by
      have := j3 q hq
      have := h1.1 r hr
      omega)
    refine ⟨k1, k2, fun x y => ?_⟩
    rw [List.foldl_cons, k3, j4]
    constructor
    · rintro ((h | h) | ⟨q, hq, h⟩)
      · exact .inl h
      · exact .inr ⟨p, List.mem_cons_self .., h⟩
      · exact .inr ⟨q, List.mem_cons_of_mem _ hq, h⟩
    · rintro (h | ⟨q, hq, h⟩)
      · exact .inl (.inl h)
      · rcases List.mem_cons.1 hq with rfl | hq
        · exact .inl (.inr h)
        · exact .inr ⟨q, hq, h⟩
theorem led_rev {L : List Pc} {x y : Int} : Led L.reverse x y ↔ Led L x y := by
  constructor
  · rintro ⟨p, hp, h⟩; exact ⟨p, List.mem_reverse.1 hp, h⟩
  · rintro ⟨p, hp, h⟩; exact ⟨p, List.mem_reverse.2 hp, h⟩
theorem led_perm {L M : List Pc} (h : L.Perm M) {x y : Int} : Led L x y ↔ Led M x y := by
  constructor
  · rintro ⟨p, hp, hh⟩; exact ⟨p, h.mem_iff.1 hp, hh⟩
  · rintro ⟨p, hp, hh⟩; exact ⟨p, h.mem_iff.2 hp, hh⟩
theorem jnd_ok {L : List Pc} (h1 : OrdP L) (h2 : ∀ p ∈ L, GodP p) : OrdP (jndP L) ∧ (∀ q ∈ jndP L, GodP q) ∧ ∀ x y, Led (jndP L) x y ↔ Led L x y := by
  obtain ⟨k1, k2, k3⟩ := foldl_jst (out := []) h1 h2 trivial (fun q hq => (by cases hq)) (fun q hq => (by cases hq))
  refine ⟨ordR_rev k1, fun q hq => k2 q (List.mem_reverse.1 hq), fun x y => ?_⟩
  unfold jndP
  rw [led_rev, k3]
  exact ⟨fun h => h.elim (fun ⟨p, hp, _⟩ => (by cases hp)) id, .inr⟩
/-- Pieces whose domains are apart. -/
def DsjP (p q : Pc) : Prop := p.o ≤ q.i ∨ q.o ≤ p.i
instance (p q : Pc) : Decidable (DsjP p q) := inferInstanceAs (Decidable (_ ∨ _))
theorem ord_dsj : ∀ {L : List Pc}, OrdP L → L.Pairwise DsjP
  | [], _ => List.Pairwise.nil
  | p :: L, h => List.pairwise_cons.2 ⟨fun q hq => .inl (h.1 q hq), ord_dsj h.2⟩
theorem dsj_ord : ∀ {L : List Pc}, AscP L → (∀ p ∈ L, p.i < p.o) → L.Pairwise DsjP → OrdP L
  | [], _, _, _ => trivial
  | p :: L, h, hn, hd => by
    obtain ⟨d1, d2⟩ := List.pairwise_cons.1 hd
    refine ⟨fun q hq => ?_, dsj_ord h.2 (fun q hq => hn q (List.mem_cons_of_mem _ hq)) d2⟩
    have a := h.1 q hq
    have b := hn q (List.mem_cons_of_mem _ hq)
    rcases d1 q hq with c | c
    · exact c
    · omega
theorem dsj_perm {L M : List Pc} (h : L.Perm M) : L.Pairwise DsjP ↔ M.Pairwise DsjP := h.pairwise_iff (fun h => h.symm)
theorem dsj_dif {L : List Pc} (hn : ∀ p ∈ L, p.i < p.o) (h : L.Pairwise DsjP) : DifP L := by
  induction L with
  | nil => exact List.Pairwise.nil
  | cons p L ih =>
    obtain ⟨d1, d2⟩ := List.pairwise_cons.1 h
    refine List.pairwise_cons.2 ⟨fun q hq => ?_, ih (fun q hq => hn q (List.mem_cons_of_mem _ hq)) d2⟩
    have a := hn p (List.mem_cons_self ..)
    have b := hn q (List.mem_cons_of_mem _ hq)
    rcases d1 q hq with c | c <;> omega
/-- Any sort of pieces that are apart, joined. -/
theorem jon_of {L ys : List Pc} (hn : ∀ p ∈ L, p.i < p.o) (hd : L.Pairwise DsjP) (hp : ys.Perm L) (ha : AscP ys) : jndP ys = jonP L := by
  unfold jonP
  rw [asc_one (hp.trans (srtP_perm L).symm) ha (srtP_asc L) ((dif_perm hp).2 (dsj_dif hn hd))]
theorem jon_ok {L : List Pc} (hd : L.Pairwise DsjP) (h2 : ∀ p ∈ L, GodP p) : OrdP (jonP L) ∧ (∀ q ∈ jonP L, GodP q) ∧ ∀ x y, Led (jonP L) x y ↔ Led L x y := by
  have hp := srtP_perm L
  have hg : ∀ p ∈ srtP L, GodP p := fun p h => h2 p (hp.mem_iff.1 h)
  have ho := dsj_ord (srtP_asc L) (fun p h => (sgl_ok.1 (hg p h).1).1) ((dsj_perm hp).2 hd)
  obtain ⟨k1, k2, k3⟩ := jnd_ok ho hg
  exact ⟨k1, k2, fun x y => (k3 x y).trans (led_perm hp)⟩
/-! one map behind another -/
def crsO (p q : Pc) : List Pc :=
  if max p.i (q.i - (p.t - p.i)) < min p.o (q.o - (p.t - p.i)) then [⟨max p.i (q.i - (p.t - p.i)), min p.o (q.o - (p.t - p.i)), q.t + max p.i (q.i - (p.t - p.i)) + (p.t - p.i) - q.i, p.n, p.d⟩] else []
def crsP (a b : List Pc) : List Pc := a.flatMap fun p => b.flatMap fun q => crsO p q
theorem crsO_mem {p q x : Pc} : x ∈ crsO p q ↔ (max p.i (q.i - (p.t - p.i)) < min p.o (q.o - (p.t - p.i)) ∧ x = ⟨max p.i (q.i - (p.t - p.i)), min p.o (q.o - (p.t - p.i)), q.t + max p.i (q.i - (p.t - p.i)) + (p.t - p.i) - q.i, p.n, p.d⟩) := by
  unfold crsO
  split
  · rename_i h; rw [List.mem_singleton]; exact ⟨fun e => ⟨h, e⟩, fun e => e.2⟩
  · rename_i h; exact ⟨fun e => (by cases e), fun e => (h e.1).elim⟩
theorem crs_mem {a b : List Pc} {x : Pc} : x ∈ crsP a b ↔ ∃ p ∈ a, ∃ q ∈ b, x ∈ crsO p q := by
  unfold crsP
  simp only [List.mem_flatMap]
theorem crs_row (p : Pc) : ∀ {b : List Pc}, OrdP b → OrdP (b.flatMap fun q => crsO p q)
  | [], _ => trivial
  | q :: b, h => by
    rw [List.flatMap_cons]
    refine ord_append ?_ (crs_row p h.2) (fun x hx y hy => ?_)
    · unfold crsO
      split
      · exact ⟨fun q hq => (by cases hq), trivial⟩
      · trivial
    · obtain ⟨r, hr, hy⟩ := List.mem_flatMap.1 hy
      obtain ⟨h1, rfl⟩ := crsO_mem.1 hx
      obtain ⟨h2, rfl⟩ := crsO_mem.1 hy
      have := h.1 r hr
      show min p.o (q.o - (p.t - p.i)) ≤ max p.i (r.i - (p.t - p.i))
      omega
theorem crs_ord : ∀ {a b : List Pc}, OrdP a → OrdP b → OrdP (crsP a b)
  | [], _, _, _ => trivial
  | p :: a, b, ha, hb => by
    show OrdP ((b.flatMap fun q => crsO p q) ++ crsP a b)
    refine ord_append (crs_row p hb) (crs_ord ha.2 hb) (fun x hx y hy => ?_)
    obtain ⟨q, hq, hx⟩ := List.mem_flatMap.1 hx
    obtain ⟨r, hr, s, hs, hy⟩ := crs_mem.1 hy
    obtain ⟨h1, rfl⟩ := crsO_mem.1 hx
    obtain ⟨h2, rfl⟩ := crsO_mem.1 hy
    have := ha.1 r hr
    show min p.o _ ≤ max r.i _
    omega
theorem crs_god {a b : List Pc} (ha : ∀ p ∈ a, GodP p) (hb : ∀ p ∈ b, GodP p) : ∀ x ∈ crsP a b, GodP x := by
  intro x hx
  obtain ⟨p, hp, q, hq, hx⟩ := crs_mem.1 hx
  obtain ⟨h1, rfl⟩ := crsO_mem.1 hx
  have hpl : plnO ⟨max p.i (q.i - (p.t - p.i)), min p.o (q.o - (p.t - p.i)), q.t + max p.i (q.i - (p.t - p.i)) + (p.t - p.i) - q.i, p.n, p.d⟩ = true := (ha p hp).2
  have a1 := (god_iff (ha p hp).2).1 (ha p hp).1
  have b1 := (god_iff (hb q hq).2).1 (hb q hq).1
  have a5 : p.t + (p.o - p.i) ≤ 5184000 := a1.2.2.2.2
  have b5 : q.t + (q.o - q.i) ≤ 5184000 := b1.2.2.2.2
  refine ⟨(god_iff hpl).2 ⟨h1, ?_, ?_, ?_, ?_⟩, hpl⟩
  · show 0 ≤ max p.i _; omega
  · have := a1.2.2.1; show min p.o _ ≤ mF; omega
  · show 0 ≤ q.t + max p.i (q.i - (p.t - p.i)) + (p.t - p.i) - q.i; omega
  · show q.t + max p.i (q.i - (p.t - p.i)) + (p.t - p.i) - q.i + (min p.o (q.o - (p.t - p.i)) - max p.i (q.i - (p.t - p.i))) ≤ 5184000
    omega
theorem crs_led {a b : List Pc} (ha : ∀ p ∈ a, GodP p) (hb : ∀ p ∈ b, GodP p) (x z : Int) : Led (crsP a b) x z ↔ ∃ y, Led a x y ∧ Led b y z := by
  constructor
  · rintro ⟨u, hu, h1, h2, rfl⟩
    obtain ⟨p, hp, q, hq, hx⟩ := crs_mem.1 hu
    obtain ⟨h3, rfl⟩ := crsO_mem.1 hx
    have hpl : plnO ⟨max p.i (q.i - (p.t - p.i)), min p.o (q.o - (p.t - p.i)), q.t + max p.i (q.i - (p.t - p.i)) + (p.t - p.i) - q.i, p.n, p.d⟩ = true := (ha p hp).2
    rw [pln_led hpl]
    simp only [] at h1 h2 ⊢
    refine ⟨ledP p x, ⟨p, hp, by omega, by omega, rfl⟩, ⟨q, hq, ?_, ?_, ?_⟩⟩
    · rw [pln_led (ha p hp).2]; omega
    · rw [pln_led (ha p hp).2]; omega
    · rw [pln_led (hb q hq).2, pln_led (ha p hp).2]; omega
  · rintro ⟨y, ⟨p, hp, h1, h2, rfl⟩, ⟨q, hq, h3, h4, rfl⟩⟩
    rw [pln_led (ha p hp).2] at h3 h4 ⊢
    have hlt : max p.i (q.i - (p.t - p.i)) < min p.o (q.o - (p.t - p.i)) := by omega
    have hpl : plnO ⟨max p.i (q.i - (p.t - p.i)), min p.o (q.o - (p.t - p.i)), q.t + max p.i (q.i - (p.t - p.i)) + (p.t - p.i) - q.i, p.n, p.d⟩ = true := (ha p hp).2
    refine ⟨_, crs_mem.2 ⟨p, hp, q, hq, crsO_mem.2 ⟨hlt, rfl⟩⟩, ?_, ?_, ?_⟩
    · show max p.i _ ≤ x; omega
    · show x < min p.o _; omega
    · rw [pln_led hpl, pln_led (hb q hq).2]
      show _ = q.t + max p.i (q.i - (p.t - p.i)) + (p.t - p.i) - q.i + (x - max p.i (q.i - (p.t - p.i)))
      omega
/-- The first error of two maps. -/
def cmpP (a b : List Pc) : List Pc × Int :=
  if chkP a = 0 then (if chkP b = 0 then (if (plnB a && plnB b) = true then (if 64 < (jonP (crsP a b)).length then ([], 9) else (jonP (crsP a b), 0)) else ([], 3)) else ([], chkP b)) else ([], chkP a)
theorem god_of {m : List Pc} (h : chkP m = 0) (hp : plnB m = true) : OrdP m ∧ ∀ p ∈ m, GodP p := by
  obtain ⟨h1, h2, h3⟩ := chkP_ok.1 h
  exact ⟨h3, fun p hm => ⟨h2 p hm, pln_one hp p hm⟩⟩
theorem chk_of {m : List Pc} (hl : m.length ≤ 64) (ho : OrdP m) (hg : ∀ p ∈ m, GodP p) : chkP m = 0 := chkP_ok.2 ⟨hl, fun p hp => (hg p hp).1, ho⟩
theorem cmp_ok {a b : List Pc} (h : (cmpP a b).2 = 0) : chkP a = 0 ∧ chkP b = 0 ∧ plnB a = true ∧ plnB b = true ∧ chkP (cmpP a b).1 = 0 ∧ (∀ p ∈ (cmpP a b).1, GodP p) ∧ ∀ x z, Led (cmpP a b).1 x z ↔ ∃ y, Led a x y ∧ Led b y z := by
  unfold cmpP at h ⊢
  split at h
  · rename_i ha
    split at h
    · rename_i hb
      split at h
      · rename_i hpl
        have hpl2 := hpl
        rw [Bool.and_eq_true] at hpl2
        split at h
        · exact absurd h (by decide)
        · rename_i hl
          rw [if_pos ha, if_pos hb, if_pos hpl, if_neg hl]
          obtain ⟨oa, ga⟩ := god_of ha hpl2.1
          obtain ⟨ob, gb⟩ := god_of hb hpl2.2
          obtain ⟨k1, k2, k3⟩ := jon_ok (ord_dsj (crs_ord oa ob)) (crs_god ga gb)
          exact ⟨ha, hb, hpl2.1, hpl2.2, chk_of (Nat.not_lt.1 hl) k1 k2, k2, fun x z => (k3 x z).trans (crs_led ga gb x z)⟩
      · exact absurd h (by decide)
    · exact absurd h (by assumption)
  · exact absurd h (by assumption)
theorem cmp_bad {a b : List Pc} (h : (cmpP a b).2 ≠ 0) : (cmpP a b).1 = [] := by
  unfold cmpP at h ⊢
  repeat' split
  all_goals first | rfl | simp_all
/-- TimemapChains in plain words. -/
theorem chains_led {a b : List Pc} (h : (cmpP a b).2 = 0) (x : Int) :
    (atP (cmpP a b).1 x).2 = ((atP a x).2 && (atP b (atP a x).1).2) ∧ ((atP (cmpP a b).1 x).2 = true → (atP (cmpP a b).1 x).1 = (atP b (atP a x).1).1) := by
  obtain ⟨ha, hb, _, _, hc, _, hl⟩ := cmp_ok h
  generalize (cmpP a b).1 = c at *
  rcases at_two c x with h1 | h1
  · have h2 : Led c x (atP c x).1 := (at_led hc).2 (by rw [← h1])
    obtain ⟨y, y1, y2⟩ := (hl x _).1 h2
    have e1 := (at_led ha).1 y1
    have e2 := (at_led hb).1 y2
    rw [e1]
    simp only []
    rw [e2, h1]
    exact ⟨rfl, fun _ => rfl⟩
  · rw [h1]
    refine ⟨?_, fun e => by cases e⟩
    rcases at_two a x with g1 | g1
    · rcases at_two b (atP a x).1 with g2 | g2
      · have k1 : Led a x (atP a x).1 := (at_led ha).2 (by rw [← g1])
        have k2 : Led b (atP a x).1 (atP b (atP a x).1).1 := (at_led hb).2 (by rw [← g2])
        have k3 := (at_led hc).1 ((hl x _).2 ⟨_, k1, k2⟩)
        rw [h1] at k3
        exact absurd (Prod.mk.inj k3).2 (by decide)
      · rw [g2, g1]; rfl
    · rw [g1]; rfl
/-! the map that leads back -/
def invO (p : Pc) : Pc := ⟨p.t, p.t + p.o - p.i, p.i, p.n, p.d⟩
def invL (m : List Pc) : List Pc := m.map invO
def invP (m : List Pc) : List Pc × Int :=
  if chkP m = 0 then (if plnB m = true then (if (invL m).Pairwise DsjP then (jonP (invL m), 0) else ([], 14)) else ([], 3)) else ([], chkP m)
theorem inv_god {m : List Pc} (h : ∀ p ∈ m, GodP p) : ∀ p ∈ invL m, GodP p := by
  intro x hx
  obtain ⟨p, hp, rfl⟩ := List.mem_map.1 hx
  have hpl : plnO (invO p) = true := (h p hp).2
  have a1 := (god_iff (h p hp).2).1 (h p hp).1
  have a3 : p.o ≤ 5184000 := a1.2.2.1
  have a5 : p.t + (p.o - p.i) ≤ 5184000 := a1.2.2.2.2
  refine ⟨(god_iff hpl).2 ⟨?_, a1.2.2.2.1, ?_, a1.2.1, ?_⟩, hpl⟩
  · show p.t < p.t + p.o - p.i; omega
  · show p.t + p.o - p.i ≤ 5184000; omega
  · show p.i + (p.t + p.o - p.i - p.t) ≤ 5184000; omega
theorem inv_led {m : List Pc} (h : ∀ p ∈ m, GodP p) {x y : Int} : Led (invL m) y x ↔ Led m x y := by
  constructor
  · rintro ⟨u, hu, h1, h2, rfl⟩
    obtain ⟨p, hp, rfl⟩ := List.mem_map.1 hu
    have hpl : plnO (invO p) = true := (h p hp).2
    rw [pln_led hpl]
    have h1 : p.t ≤ y := h1
    have h2 : y < p.t + p.o - p.i := h2
    refine ⟨p, hp, ?_, ?_, ?_⟩
    · show p.i ≤ p.i + (y - p.t); omega
    · show p.i + (y - p.t) < p.o; omega
    · rw [pln_led (h p hp).2]; show y = p.t + (p.i + (y - p.t) - p.i); omega
  · rintro ⟨p, hp, h1, h2, rfl⟩
    have hpl : plnO (invO p) = true := (h p hp).2
    rw [pln_led (h p hp).2]
    refine ⟨invO p, List.mem_map.2 ⟨p, hp, rfl⟩, ?_, ?_, ?_⟩
    · show p.t ≤ p.t + (x - p.i); omega
    · show p.t + (x - p.i) < p.t + p.o - p.i; omega
    · rw [pln_led hpl]; show x = p.i + (p.t + (x - p.i) - p.t); omega
theorem inv_ok {m : List Pc} (h : (invP m).2 = 0) : chkP m = 0 ∧ plnB m = true ∧ chkP (invP m).1 = 0 ∧ (∀ p ∈ (invP m).1, GodP p) ∧ ∀ x y, Led (invP m).1 y x ↔ Led m x y := by
  unfold invP at h ⊢
  split at h
  · rename_i ha
    split at h
    · rename_i hp
      split at h
      · rename_i hd
        rw [if_pos ha, if_pos hp, if_pos hd]
        obtain ⟨oa, ga⟩ := god_of ha hp
        obtain ⟨k1, k2, k3⟩ := jon_ok hd (inv_god ga)
        have hlen : (jonP (invL m)).length ≤ 64 := by
          have h1 := jonP_len (invL m)
          have h2 := (chkP_ok.1 ha).1
          have h3 : (invL m).length = m.length := List.length_map ..
          omega
        exact ⟨ha, hp, chk_of hlen k1 k2, k2, fun x y => (k3 y x).trans (inv_led ga)⟩
      · exact absurd h (by decide)
    · exact absurd h (by decide)
  · exact absurd h (by assumption)
/-- TimemapInverts in plain words. -/
theorem inverts_led {m : List Pc} (h : (invP m).2 = 0) (x : Int) (ha : (atP m x).2 = true) : atP (invP m).1 (atP m x).1 = (x, true) := by
  obtain ⟨h1, _, h2, _, h3⟩ := inv_ok h
  exact (at_led h2).1 ((h3 x _).2 ((at_led h1).2 (by rw [← ha])))
/-! the moved map -/
def movO (n : Int) (p : Pc) : Pc := ⟨p.i + n, p.o + n, p.t, p.n, p.d⟩
def movL (m : List Pc) (n : Int) : List Pc := m.map (movO n)
def lstO (m : List Pc) : Int := match m.getLast? with | some p => p.o | none => 0
def fstI (m : List Pc) : Int := match m.head? with | some p => p.i | none => 0
def movP (m : List Pc) (n : Int) : List Pc × Int :=
  if chkP m = 0 then (if m = [] then ([], 0) else if n < -fstI m ∨ mF - lstO m < n then ([], 2) else (movL m n, 0)) else ([], chkP m)
theorem mov_led (p : Pc) (n x : Int) : ledP (movO n p) (x + n) = ledP p x := by
  unfold ledP movO
  simp only []
  rw [show x + n - (p.i + n) = x - p.i by omega]
theorem mov_ord (n : Int) : ∀ {m : List Pc}, OrdP m → OrdP (movL m n)
  | [], _ => trivial
  | p :: m, h => by
    refine ⟨fun q hq => ?_, mov_ord n h.2⟩
    obtain ⟨r, hr, rfl⟩ := List.mem_map.1 hq
    have := h.1 r hr
    show p.o + n ≤ r.i + n
    omega
theorem first_low {m : List Pc} (h : OrdP m) (hn : ∀ p ∈ m, p.i < p.o) : ∀ p ∈ m, fstI m ≤ p.i := by
  cases m with
  | nil => intro p hp; cases hp
  | cons q r =>
    intro p hp
    show q.i ≤ p.i
    rcases List.mem_cons.1 hp with rfl | hp
    · exact Int.le_refl _
    · have := h.1 p hp
      have := hn q (List.mem_cons_self ..)
      omega
theorem last_high : ∀ {m : List Pc}, OrdP m → (∀ p ∈ m, p.i < p.o) → ∀ p ∈ m, p.o ≤ lstO m
  | [], _, _, p, hp => by cases hp
  | [q], _, _, p, hp => by rcases List.mem_singleton.1 hp with rfl; exact Int.le_refl _
  | q :: r :: m, h, hn, p, hp => by
    have e : lstO (q :: r :: m) = lstO (r :: m) := by unfold lstO; rw [List.getLast?_cons_cons]
    have ih := last_high (m := r :: m) h.2 (fun p hp => hn p (List.mem_cons_of_mem _ hp))
    rw [e]
    rcases List.mem_cons.1 hp with rfl | hp
    · have h1 := h.1 r (List.mem_cons_self ..)
      have h2 := hn r (by simp)
      have h3 := ih r (List.mem_cons_self ..)
      omega
    · exact ih p hp
theorem mov_ok {m : List Pc} {n : Int} (h : (movP m n).2 = 0) (hm : m ≠ []) : chkP m = 0 ∧ (movP m n).1 = movL m n ∧ chkP (movL m n) = 0 ∧ -mF ≤ n ∧ n ≤ mF := by
  by_cases ha : chkP m = 0
  · by_cases hb : n < -fstI m ∨ mF - lstO m < n
    · unfold movP at h
      rw [if_pos ha, if_neg hm, if_pos hb] at h
      exact absurd h (by decide)
    · have e : movP m n = (movL m n, 0) := by unfold movP; rw [if_pos ha, if_neg hm, if_neg hb]
      rw [e]
      obtain ⟨h1, h2, h3⟩ := chkP_ok.1 ha
      have hfl : 0 ≤ lstO m ∧ fstI m ≤ mF := by
        cases m with
        | nil => exact absurd rfl hm
        | cons q r =>
          have a := sgl_ok.1 (h2 q (List.mem_cons_self ..))
          have b := last_high h3 (ok_pos h2) q (List.mem_cons_self ..)
          have a3 : q.o ≤ 5184000 := a.2.2.1
          exact ⟨by omega, by show q.i ≤ 5184000; omega⟩
      have g2 : fstI m ≤ 5184000 := hfl.2
      have hb2 : ¬ (n < -fstI m ∨ 5184000 - lstO m < n) := hb
      refine ⟨ha, rfl, chkP_ok.2 ⟨by unfold movL; rw [List.length_map]; exact h1, fun x hx => ?_, mov_ord n h3⟩, by show -5184000 ≤ n; omega, by show n ≤ 5184000; omega⟩
      obtain ⟨p, hp, rfl⟩ := List.mem_map.1 hx
      have a := sgl_ok.1 (h2 p hp)
      have b := first_low h3 (ok_pos h2) p hp
      have c := last_high h3 (ok_pos h2) p hp
      have a3 : p.o ≤ 5184000 := a.2.2.1
      refine sgl_ok.2 ⟨?_, ?_, ?_, a.2.2.2.1, a.2.2.2.2.1, a.2.2.2.2.2.1, ?_⟩
      · show p.i + n < p.o + n; omega
      · show 0 ≤ p.i + n; omega
      · show p.o + n ≤ 5184000; omega
      · have := a.2.2.2.2.2.2
        rwa [show (movO n p).o - 1 = (p.o - 1) + n by show p.o + n - 1 = _; omega, mov_led]
  · unfold movP at h
    rw [if_neg ha] at h
    exact absurd h ha
theorem shifts_led {m : List Pc} {n : Int} (h : (movP m n).2 = 0) (hm : m ≠ []) (x : Int) : atP (movP m n).1 (x + n) = atP m x := by
  obtain ⟨h1, h2, h3, _⟩ := mov_ok h hm
  rw [h2]
  rcases at_two m x with g | g
  · have k : Led m x (atP m x).1 := (at_led h1).2 (by rw [← g])
    obtain ⟨p, hp, a, b, c⟩ := k
    have k2 : Led (movL m n) (x + n) (atP m x).1 := ⟨movO n p, List.mem_map.2 ⟨p, hp, rfl⟩, by show p.i + n ≤ x + n; omega, by show x + n < p.o + n; omega, by rw [mov_led]; exact c⟩
    rw [(at_led h3).1 k2, ← g]
  · rw [g]
    rcases at_two (movL m n) (x + n) with g2 | g2
    · have k : Led (movL m n) (x + n) (atP (movL m n) (x + n)).1 := (at_led h3).2 (by rw [← g2])
      obtain ⟨u, hu, a, b, c⟩ := k
      obtain ⟨p, hp, rfl⟩ := List.mem_map.1 hu
      rw [mov_led] at c
      have a : p.i + n ≤ x + n := a
      have b : x + n < p.o + n := b
      have k2 : Led m x (atP (movL m n) (x + n)).1 := ⟨p, hp, by omega, by omega, c⟩
      have := (at_led h1).1 k2
      rw [g] at this
      exact absurd (Prod.mk.inj this).2 (by decide)
    · exact g2
end Go.Proofs.YteojlodcafogaaaGreatDoor
namespace Go.Proofs.YteojlodcafogaaaGreatDoor
set_option linter.unusedVariables false
set_option linter.unusedSimpArgs false
def okJ : Lib.NumEnd Int → Option Int := fun r => match r with | .ok v => some v | _ => none
def wdA (p : Pc) : List UInt8 := Lib.itoa p.i ++ [45] ++ Lib.itoa p.o
def wdB (p : Pc) : List UInt8 := Lib.itoa p.t ++ [42] ++ Q.textL p.n p.d
def wdP (p : Pc) : List UInt8 := wdA p ++ [62] ++ wdB p
def txtP (m : List Pc) : List UInt8 × Int := if chkP m = 0 then ((if m.length = 0 then [45] else Lib.join (m.map wdP) [32]), 0) else ([], chkP m)
theorem sgl_bd {p : Pc} (h : sglP p = 0) : 0 ≤ p.i ∧ p.i ≤ 5184000 ∧ 0 ≤ p.o ∧ p.o ≤ 5184000 ∧ 0 ≤ p.t ∧ p.t ≤ 5184000 ∧ Q.validV p.n p.d = true ∧ 0 ≤ p.n ∧ p.n ≤ 8 ∧ 1 ≤ p.d ∧ p.d ≤ 8 := by
  obtain ⟨h1, h2, h3, h4, h5, h6, _⟩ := sgl_ok.1 h
  obtain ⟨k1, k2, k3, k4, k5⟩ := spd_bd h4
  have h3 : p.o ≤ 5184000 := h3
  have h6 : p.t < 5184000 := h6
  exact ⟨by omega, by omega, by omega, by omega, by omega, by omega, k5, k1, k2, k3, k4⟩
theorem itoa_le7 {n : Int} (h0 : 0 ≤ n) (h1 : n ≤ 5184000) : (Lib.itoa n).length ≤ 21 := Lib.itoa_length_le _ (by omega) (by omega)
theorem wdA_le {p : Pc} (h : sglP p = 0) : (wdA p).length ≤ 43 := by
  obtain ⟨a1, a2, a3, a4, _⟩ := sgl_bd h
  have := itoa_le7 a1 a2
  have := itoa_le7 a3 a4
  unfold wdA
  simp
  omega
theorem txt_le {n d : Int} (h : Q.validV n d = true) (h0 : 0 ≤ n) (h1 : n ≤ 8) (h2 : 1 ≤ d) (h3 : d ≤ 8) : (Q.textL n d).length ≤ 43 := by
  have := itoa_le7 (n := n) h0 (by omega)
  have := itoa_le7 (n := d) (by omega) (by omega)
  rw [Q.textL_valid h]
  simp
  omega
theorem wdP_le {p : Pc} (h : sglP p = 0) : (wdP p).length ≤ 109 := by
  obtain ⟨a1, a2, a3, a4, a5, a6, a7, a8, a9, a10, a11⟩ := sgl_bd h
  have := itoa_le7 a5 a6
  have := wdA_le h
  have := txt_le a7 a8 a9 a10 a11
  unfold wdP wdB
  simp
  omega
theorem plens_le {xs : List (List UInt8)} {m : Nat} (h : ∀ x ∈ xs, x.length ≤ m) : Lib.lens xs ≤ m * xs.length := by
  induction xs with
  | nil => simp [Lib.lens]
  | cons x xs ih =>
    have h1 := h x List.mem_cons_self
    have h2 := ih fun y hy => h y (List.mem_cons_of_mem _ hy)
    simp [Lib.lens, Nat.mul_add] at h2 ⊢
    omega
theorem pjoin_bd {L : List Pc} (h : ∀ p ∈ L, sglP p = 0) : (Lib.join (L.map wdP) [32]).length ≤ 110 * L.length := by
  cases L with
  | nil => simp [Lib.join]
  | cons x xs =>
    have h1 : ∀ y ∈ (x :: xs).map wdP, y.length ≤ 109 := by
      intro y hy
      obtain ⟨z, hz, rfl⟩ := List.mem_map.1 hy
      exact wdP_le (h z hz)
    have h2 := plens_le h1
    rw [List.map_cons, Lib.join_length]
    rw [List.map_cons] at h2
    simp at h2 ⊢
    omega
theorem txtP_len (m : List Pc) : (txtP m).1.length ≤ 7041 := by
  unfold txtP
  split
  · rename_i h
    obtain ⟨h1, h2, _⟩ := chkP_ok.1 h
    show (if m.length = 0 then [45] else Lib.join (m.map wdP) [32]).length ≤ 7041
    split
    · simp
    · have := pjoin_bd h2
      omega
  · simp
/-! one word -/
def pieV (w : List UInt8) : Option Pc :=
  match okJ (Lib.parseIntB 64 (cutC 45 (cutC 62 w).1).1), okJ (Lib.parseIntB 64 (cutC 45 (cutC 62 w).1).2), okJ (Lib.parseIntB 64 (cutC 42 (cutC 62 w).2).1) with
  | some a, some b, some c => if (Q.parseRV (cutC 42 (cutC 62 w).2).2).2 = 0 then some ⟨a, b, c, (Q.parseRV (cutC 42 (cutC 62 w).2).2).1.1, (Q.parseRV (cutC 42 (cutC 62 w).2).2).1.2⟩ else none
  | _, _, _ => none
theorem dig_no {n : Int} {c : UInt8} (h0 : 0 ≤ n) (h : c.toNat < 48 ∨ 57 < c.toNat) : c ∉ Lib.itoa n := by
  rw [itoa_dec h0]; exact dec_no h
theorem txt_no {n d : Int} {c : UInt8} (hv : Q.validV n d = true) (h0 : 0 ≤ n) (h2 : 1 ≤ d) (h : c.toNat < 47 ∨ 57 < c.toNat) : c ∉ Q.textL n d := by
  rw [Q.textL_valid hv]
  intro hm
  rcases List.mem_append.1 hm with hm | hm
  · exact dig_no h0 (by omega) hm
  · rcases List.mem_cons.1 hm with e | hm
    · subst e; revert h; decide
    · exact dig_no (by omega : 0 ≤ d) (by omega) hm
theorem wdA_no {p : Pc} {c : UInt8} (h : sglP p = 0) (hc : c.toNat < 45 ∨ 57 < c.toNat) : c ∉ wdA p := by
  obtain ⟨a1, a2, a3, a4, _⟩ := sgl_bd h
  unfold wdA
  intro hm
  rcases List.mem_append.1 hm with hm | hm
  · rcases List.mem_append.1 hm with hm | hm
    · exact dig_no a1 (by omega) hm
    · rw [List.mem_singleton] at hm; subst hm; revert hc; decide
  · exact dig_no a3 (by omega) hm
theorem wdP_cut {p : Pc} (h : sglP p = 0) : cutC 62 (wdP p) = (wdA p, wdB p) := by
  unfold wdP
  rw [List.append_assoc]
  exact cutC_cut (wdA_no h (by decide))
theorem wdA_cut {p : Pc} (h : sglP p = 0) : cutC 45 (wdA p) = (Lib.itoa p.i, Lib.itoa p.o) := by
  obtain ⟨a1, _⟩ := sgl_bd h
  unfold wdA
  rw [List.append_assoc]
  exact cutC_cut (dig_no a1 (by decide))
theorem wdB_cut {p : Pc} (h : sglP p = 0) : cutC 42 (wdB p) = (Lib.itoa p.t, Q.textL p.n p.d) := by
  obtain ⟨_, _, _, _, a5, _⟩ := sgl_bd h
  unfold wdB
  rw [List.append_assoc]
  exact cutC_cut (dig_no a5 (by decide))
theorem txt_ne {n d : Int} (hv : Q.validV n d = true) : Q.textL n d ≠ [] := by
  rw [Q.textL_valid hv]
  simp
theorem pieV_wd {p : Pc} (h : sglP p = 0) : pieV (wdP p) = some p := by
  obtain ⟨a1, a2, a3, a4, a5, a6, a7, _⟩ := sgl_bd h
  unfold pieV
  rw [wdP_cut h]
  simp only []
  rw [wdA_cut h, wdB_cut h]
  simp only []
  rw [parseInt_itoa (by omega) (by omega), parseInt_itoa (by omega) (by omega), parseInt_itoa (by omega) (by omega), Q.parse_hit rfl (txt_ne a7)]
  rfl
theorem blank_noP {p : Pc} (h : sglP p = 0) : (32 : UInt8) ∉ wdP p := by
  obtain ⟨a1, a2, a3, a4, a5, a6, a7, a8, a9, a10, a11⟩ := sgl_bd h
  unfold wdP wdB
  intro hm
  rcases List.mem_append.1 hm with hm | hm
  · rcases List.mem_append.1 hm with hm | hm
    · exact wdA_no h (by decide) hm
    · revert hm; decide
  · rcases List.mem_append.1 hm with hm | hm
    · rcases List.mem_append.1 hm with hm | hm
      · exact dig_no a5 (by decide) hm
      · revert hm; decide
    · exact txt_no a7 a8 a10 (by decide) hm
theorem pjoin_two (a b : List UInt8) (r : List (List UInt8)) (sep : List UInt8) : Lib.join (a :: b :: r) sep = a ++ sep ++ Lib.join (b :: r) sep := by
  rw [Lib.join_cons, Lib.join_cons]
  simp [Lib.joinTail]
theorem pwords_join (c : UInt8) : ∀ (ws : List (List UInt8)), ws ≠ [] → (∀ w ∈ ws, c ∉ w) → wordsC c (Lib.join ws [c]) = ws
  | [], h, _ => absurd rfl h
  | [a], _, h => by
    rw [Lib.join_one]
    exact wordsC_no (h a (List.mem_cons_self ..))
  | a :: b :: r, _, h => by
    have ih := pwords_join c (b :: r) (by simp) (fun w hw => h w (List.mem_cons_of_mem _ hw))
    rw [pjoin_two, List.append_assoc, List.singleton_append, wordsC_cut (h a (List.mem_cons_self ..)), ih]
def wdsP : List Pc → List (List UInt8) → Option (List Pc)
  | C, [] => some C
  | C, w :: r => match pieV w with | some x => wdsP (C ++ [x]) r | none => none
theorem wdsP_text : ∀ (L C : List Pc), (∀ x ∈ L, sglP x = 0) → wdsP C (L.map wdP) = some (C ++ L)
  | [], C, _ => by simp [wdsP]
  | x :: L, C, h => by
    have ih := wdsP_text L (C ++ [x]) (fun y hy => h y (List.mem_cons_of_mem _ hy))
    show (match pieV (wdP x) with | some y => wdsP (C ++ [y]) (L.map wdP) | none => none) = _
    rw [pieV_wd (h x (List.mem_cons_self ..))]
    show wdsP (C ++ [x]) (L.map wdP) = _
    rw [ih]
    simp
theorem wdsP_step {C : List Pc} {W : List (List UInt8)} {k : Nat} {u : List UInt8} (hk : W[k]? = some u) : wdsP C (W.drop k) = (match pieV u with | some x => wdsP (C ++ [x]) (W.drop (k + 1)) | none => none) := by
  obtain ⟨h, e⟩ := List.getElem?_eq_some_iff.1 hk
  rw [List.drop_eq_getElem_cons h, e]
  rfl
/-- What a text is read as. -/
def prsP (s : List UInt8) : List Pc × Int := if s = [45] then ([], 0) else match wdsP [] (wordsC 32 s) with | some L => if (txtP L).2 = 0 ∧ (txtP L).1 = s then (L, 0) else ([], 4) | none => ([], 4)
/-- A text of a map with pieces: its words. -/
theorem txt_some {L : List Pc} {S : List UInt8} (h45 : S ≠ [45]) (h : txtP L = (S, 0)) : (∀ x ∈ L, sglP x = 0) ∧ L.length ≤ 64 ∧ L.length ≠ 0 ∧ wordsC 32 S = L.map wdP := by
  have h0 : chkP L = 0 := by
    by_cases h0 : chkP L = 0
    · exact h0
    · unfold txtP at h; rw [if_neg h0] at h; exact absurd (Prod.mk.inj h).2 h0
  have he : L.length ≠ 0 := by
    intro he
    unfold txtP at h
    rw [if_pos h0, if_pos he] at h
    exact h45 (Prod.mk.inj h).1.symm
  obtain ⟨h1, h2, _⟩ := chkP_ok.1 h0
  have hS : Lib.join (L.map wdP) [32] = S := by
    unfold txtP at h
    rw [if_pos h0, if_neg he] at h
    exact (Prod.mk.inj h).1
  refine ⟨h2, h1, he, ?_⟩
  rw [← hS]
  exact pwords_join 32 _ (by intro e; simp at e; rw [e] at he; exact he rfl) (fun w hw => by
    obtain ⟨x, hx, rfl⟩ := List.mem_map.1 hw
    exact blank_noP (h2 x hx))
theorem dash_one (x : Pc) : wdP x ≠ [45] := by
  intro h
  have h1 := congrArg List.length h
  have h2 := itoa_ne x.i
  unfold wdP wdA at h1
  cases hi : Lib.itoa x.i with
  | nil => exact h2 hi
  | cons a b => rw [hi] at h1; simp at h1
theorem txt_dash {L : List Pc} (h : txtP L = ([45], 0)) : L = [] := by
  have h0 : chkP L = 0 := by
    by_cases h0 : chkP L = 0
    · exact h0
    · unfold txtP at h; rw [if_neg h0] at h; exact absurd (Prod.mk.inj h).2 h0
  by_cases he : L.length = 0
  · exact List.eq_nil_of_length_eq_zero he
  · exfalso
    obtain ⟨h1, h2, _⟩ := chkP_ok.1 h0
    have hS : Lib.join (L.map wdP) [32] = [45] := by
      unfold txtP at h
      rw [if_pos h0, if_neg he] at h
      exact (Prod.mk.inj h).1
    have hw : wordsC 32 (Lib.join (L.map wdP) [32]) = L.map wdP := pwords_join 32 _ (by intro e; simp at e; rw [e] at he; exact he rfl) (fun w hw => by
      obtain ⟨x, hx, rfl⟩ := List.mem_map.1 hw
      exact blank_noP (h2 x hx))
    rw [hS, show wordsC 32 [45] = [[45]] by decide] at hw
    cases L with
    | nil => exact he rfl
    | cons x r =>
      simp at hw
      exact dash_one x hw.1.symm
theorem prsP_hit {S : List UInt8} {L : List Pc} (h : txtP L = (S, 0)) : prsP S = (L, 0) := by
  unfold prsP
  by_cases h45 : S = [45]
  · have e : L = [] := txt_dash (h45 ▸ h)
    rw [if_pos h45, e]
  · obtain ⟨h1, _, _, hw⟩ := txt_some h45 h
    rw [if_neg h45, hw, wdsP_text L [] h1]
    simp only [List.nil_append]
    rw [if_pos ⟨by rw [h], by rw [h]⟩]
theorem prsP_text {L : List Pc} (h : (txtP L).2 = 0) : prsP (txtP L).1 = (L, 0) := prsP_hit (Prod.ext rfl h)
theorem prsP_miss {S : List UInt8} (h45 : S ≠ [45]) (h : ∀ L, txtP L ≠ (S, 0)) : prsP S = ([], 4) := by
  unfold prsP
  rw [if_neg h45]
  split
  · rename_i L hL
    rw [if_neg (fun ⟨h1, h2⟩ => h L (Prod.ext h2 h1))]
  · rfl
theorem prsP_len {s : List UInt8} : (prsP s).1.length ≤ 64 := by
  unfold prsP
  split
  · simp
  · split
    · rename_i L hL
      split
      · rename_i h
        by_cases h0 : chkP L = 0
        · exact (chkP_ok.1 h0).1
        · have e : txtP L = ([], chkP L) := by unfold txtP; rw [if_neg h0]
          rw [e] at h
          exact absurd h.1 h0
      · simp
    · simp
end Go.Proofs.YteojlodcafogaaaGreatDoor
