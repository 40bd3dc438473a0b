/-
  What a conform's report says, in plain words: an event's parts have as many frames as record frames play it, its lost frames are those that no cut runs over. The conditions are the hypotheses.
-/
import Derived.Test.YtmopjhbfobmklaaGreatDoorMHc
namespace Go.Proofs.YtmopjhbfobmklaaGreatDoor
set_option linter.unusedVariables false
set_option linter.unusedSimpArgs false
theorem CutG.sgl {x : Ct} (h : CutG x) : sglP (pcOf x) = 0 := sgl_ok.2 ⟨h.io, h.i0, h.o1, h.sp, h.s0, h.s1, h.la⟩
theorem CutG.chk {x : Ct} (h : CutG x) : chkP [pcOf x] = 0 :=
 chkP_ok.2 ⟨by simp, fun p hp => by rcases List.mem_singleton.1 hp with rfl; exact h.sgl, ⟨fun q hq => (by cases hq), trivial⟩⟩
/-- A record frame of a list plays a frame of a reel. -/
def LedC (l : List Ct) (n : Int) (nm : List UInt8) (y : Int) : Prop := ∃ c ∈ l, c.i ≤ n ∧ n < c.o ∧ c.reel = nm ∧ y = ledP (pcOf c) n
theorem ledC_nil {n : Int} {nm : List UInt8} {y : Int} : ¬ LedC [] n nm y := by rintro ⟨c, h, _⟩; cases h
theorem ledC_append {l m : List Ct} {n : Int} {nm : List UInt8} {y : Int} : LedC (l ++ m) n nm y ↔ LedC l n nm y ∨ LedC m n nm y := by
 constructor
 ·rintro ⟨c, hc, h⟩
  rcases List.mem_append.1 hc with hc | hc
  ·exact .inl ⟨c, hc, h⟩
  ·exact .inr ⟨c, hc, h⟩
 ·rintro (⟨c, hc, h⟩ | ⟨c, hc, h⟩)
  ·exact ⟨c, List.mem_append_left _ hc, h⟩
  ·exact ⟨c, List.mem_append_right _ hc, h⟩
theorem ledC_one {c : Ct} {n : Int} {nm : List UInt8} {y : Int} : LedC [c] n nm y ↔ c.i ≤ n ∧ n < c.o ∧ c.reel = nm ∧ y = ledP (pcOf c) n := by
 constructor
 ·rintro ⟨x, hx, h⟩
  rcases List.mem_singleton.1 hx with rfl
  exact h
 ·exact fun h => ⟨c, List.mem_singleton.2 rfl, h⟩
theorem ord2_snoc : ∀ {M : List Ct} {z : Ct}, Ord2 (M ++ [z]) ↔ Ord2 M ∧ CutG z ∧ ∀ y ∈ M, y.o ≤ z.i
 | [], z => ⟨fun h => ⟨trivial, h.1, fun y hy => (by cases hy)⟩, fun h => ⟨h.2.1, fun y hy => (by cases hy), trivial⟩⟩
 | a :: t, z => by
  have ih := ord2_snoc (M := t) (z := z)
  constructor
  ·rintro ⟨h1, h2, h3⟩
   obtain ⟨k1, k2, k3⟩ := ih.1 h3
   refine ⟨⟨h1, fun y hy => h2 y (List.mem_append_left _ hy), k1⟩, k2, fun y hy => ?_⟩
   rcases List.mem_cons.1 hy with rfl | hy
   ·exact h2 z (by simp)
   ·exact k3 y hy
  ·rintro ⟨⟨h1, h2, h3⟩, h4, h5⟩
   refine ⟨h1, fun y hy => ?_, ih.2 ⟨h3, h4, fun y hy => h5 y (List.mem_cons_of_mem _ hy)⟩⟩
   rcases List.mem_append.1 hy with hy | hy
   ·exact h2 y hy
   ·rcases List.mem_singleton.1 hy with rfl
    exact h5 a (List.mem_cons_self ..)
theorem ord2_pair : ∀ {l : List Ct}, Ord2 l → ∀ (i j : Nat) (x y : Ct), i < j → l[i]? = some x → l[j]? = some y → x.o ≤ y.i
 | [], _, i, j, x, y, _, hx, _ => by simp at hx
 | a :: t, h, i, j, x, y, hij, hx, hy => by
  obtain ⟨j', rfl⟩ : ∃ j', j = j' + 1 := ⟨j - 1, by omega⟩
  rw [List.getElem?_cons_succ] at hy
  cases i with
  | zero =>
   rw [List.getElem?_cons_zero] at hx
   cases hx
   exact h.2.1 y (List.mem_of_getElem? hy)
  | succ i =>
   rw [List.getElem?_cons_succ] at hx
   exact ord2_pair h.2.2 i j' x y (by omega) hx hy
theorem goon_eq {a b : Ct} (h : goonB a b = true) : a.reel = b.reel ∧ a.sn = 1 ∧ a.sd = 1 ∧ b.sn = 1 ∧ b.sd = 1 ∧ a.o = b.i ∧ a.src + a.o - a.i = b.src := by
 unfold goonB at h
 simp only [Bool.and_eq_true, decide_eq_true_eq] at h
 obtain ⟨⟨⟨⟨h1, h2, h3⟩, h4, h5⟩, h6⟩, h7⟩ := h
 exact ⟨h1, h2, h3, h4, h5, h6, h7⟩
theorem led_one1 {c : Ct} (h1 : c.sn = 1) (h2 : c.sd = 1) (n : Int) : ledP (pcOf c) n = c.src + (n - c.i) := by
 unfold ledP pcOf
 rw [h1, h2, Int.mul_one, Int.ediv_one]
/-- Joined cuts play what the cuts play. -/
theorem jn_led {l : List Ct} (h : Ord2 l) : ∀ k, Ord2 (jnF l k) ∧ (∀ c ∈ jnF l k, ∃ c' ∈ l.take k, c.o = c'.o) ∧ ∀ n nm y, LedC (jnF l k) n nm y ↔ LedC (l.take k) n nm y := by
 intro k
 induction k with
 | zero => exact ⟨trivial, fun c hc => (by cases hc), fun n nm y => Iff.rfl⟩
 | succ k ih =>
  obtain ⟨i1, i2, i3⟩ := ih
  cases hx : l[k]? with
  | none =>
   have e1 : l.take (k + 1) = l.take k := by rw [List.take_add_one, hx]; simp
   have e2 : jnF l (k + 1) = jnF l k := by unfold jnF jnR; rw [e1]
   rw [e1, e2]
   exact ⟨i1, i2, i3⟩
  | some x =>
   have e1 : l.take (k + 1) = l.take k ++ [x] := by rw [List.take_add_one, hx]; rfl
   have gx := h.cut x (List.mem_of_getElem? hx)
   have lo : ∀ c ∈ jnF l k, c.o ≤ x.i := fun c hc => by
    obtain ⟨c', hc', e⟩ := i2 c hc
    obtain ⟨j, hj⟩ := List.getElem?_of_mem hc'
    have hjk : j < k := by
     have := (List.getElem?_eq_some_iff.1 hj).1
     rw [List.length_take] at this
     omega
    rw [List.getElem?_take_of_lt hjk] at hj
    rw [e]
    exact ord2_pair h j k c' x hjk hj hx
   rw [e1]
   rcases jnF_cases l k with h0 | ⟨M, z, h0⟩
   ·rw [jnF_nil hx h0]
    rw [h0] at i3
    refine ⟨⟨gx, fun y hy => (by cases hy), trivial⟩, fun c hc => ⟨x, by simp, by rcases List.mem_singleton.1 hc with rfl; rfl⟩, fun n nm y => ?_⟩
    rw [ledC_append, ← i3 n nm y]
    exact ⟨fun h => .inr h, fun h => h.elim (fun h => absurd h ledC_nil) id⟩
   ·rw [jnF_more hx h0]
    rw [h0] at i1 i2 i3 lo
    by_cases hg : goonB z x = true
    ·rw [if_pos hg]
     obtain ⟨g1, g2, g3, g4, g5, g6, g7⟩ := goon_eq hg
     obtain ⟨o1, o2, o3⟩ := ord2_snoc.1 i1
     have gz : CutG ⟨z.num, z.reel, z.src, z.i, x.o, z.sn, z.sd⟩ := by
      have a1 := gx.io
      have a2 := o2.io
      refine ⟨o2.i0, by simp only []; omega, gx.o1, o2.s0, o2.s1, o2.sp, ?_⟩
      have b1 := gx.la
      unfold lastV at b1 ⊢
      rw [led_one1 g4 g5] at b1
      rw [led_one1 (c := ⟨z.num, z.reel, z.src, z.i, x.o, z.sn, z.sd⟩) g2 g3]
      simp only []
      omega
     refine ⟨ord2_snoc.2 ⟨o1, gz, o3⟩, fun c hc => ?_, fun n nm y => ?_⟩
     ·rcases List.mem_append.1 hc with hc | hc
      ·obtain ⟨c', h1, h2⟩ := i2 c (List.mem_append_left _ hc)
       exact ⟨c', List.mem_append_left _ h1, h2⟩
      ·rcases List.mem_singleton.1 hc with rfl
       exact ⟨x, by simp, rfl⟩
     ·rw [ledC_append, ledC_append, ← i3 n nm y, ledC_append, ledC_one, ledC_one, ledC_one]
      have el : ledP (pcOf ⟨z.num, z.reel, z.src, z.i, x.o, z.sn, z.sd⟩) n = ledP (pcOf z) n := rfl
      rw [el]
      simp only []
      have a1 := gx.io
      have a2 := o2.io
      have l1 := led_one1 g2 g3 n
      have l2 := led_one1 g4 g5 n
      constructor
      ·rintro (h | ⟨h1, h2, h3, h4⟩)
       ·exact .inl (.inl h)
       ·by_cases hn : n < z.o
        ·exact .inl (.inr ⟨h1, hn, h3, h4⟩)
        ·exact .inr ⟨by omega, h2, g1 ▸ h3, by omega⟩
      ·rintro ((h | ⟨h1, h2, h3, h4⟩) | ⟨h1, h2, h3, h4⟩)
       ·exact .inl h
       ·exact .inr ⟨h1, by omega, h3, h4⟩
       ·exact .inr ⟨by omega, h2, g1.trans h3, by omega⟩
    ·rw [if_neg hg]
     refine ⟨ord2_snoc.2 ⟨i1, gx, lo⟩, fun c hc => ?_, fun n nm y => ?_⟩
     ·rcases List.mem_append.1 hc with hc | hc
      ·obtain ⟨c', h1, h2⟩ := i2 c hc
       exact ⟨c', List.mem_append_left _ h1, h2⟩
      ·rcases List.mem_singleton.1 hc with rfl
       exact ⟨c, by simp, rfl⟩
     ·rw [ledC_append (l := M ++ [z]), ledC_append (l := l.take k), ← i3 n nm y]
theorem jn_all {l : List Ct} (h : Ord2 l) : Ord2 (jnC l) ∧ (∀ c ∈ jnC l, ∃ c' ∈ l, c.o = c'.o) ∧ ∀ n nm y, LedC (jnC l) n nm y ↔ LedC l n nm y := by
 have := jn_led h l.length
 rwa [List.take_length, jnF_all] at this
/-- What a frame plays, by the list. -/
theorem atL_led : ∀ {l : List Ct}, Ord2 l → ∀ (n : Int) (nm : List UInt8) (y : Int), ((atL n l).2.2 = true ∧ (atL n l).1 = nm ∧ (atL n l).2.1 = y) ↔ LedC l n nm y
 | [], _, n, nm, y => ⟨fun h => (by cases h.1), fun h => absurd h ledC_nil⟩
 | c :: t, h, n, nm, y => by
  have ih := atL_led h.2.2 n nm y
  rw [show c :: t = [c] ++ t from rfl, ledC_append, ledC_one, ← ih]
  show ((if c.i ≤ n ∧ n < c.o then (c.reel, ledP (pcOf c) n, true) else atL n t).2.2 = true ∧ (if c.i ≤ n ∧ n < c.o then (c.reel, ledP (pcOf c) n, true) else atL n t).1 = nm ∧ (if c.i ≤ n ∧ n < c.o then (c.reel, ledP (pcOf c) n, true) else atL n t).2.1 = y) ↔ _
  by_cases hn : c.i ≤ n ∧ n < c.o
  ·rw [if_pos hn]
   constructor
   ·rintro ⟨_, h2, h3⟩
    exact .inl ⟨hn.1, hn.2, h2, h3.symm⟩
   ·rintro (⟨h1, h2, h3, h4⟩ | h5)
    ·exact ⟨rfl, h3, h4.symm⟩
    ·obtain ⟨c', hc', k1, k2, _⟩ := ih.1 h5
     have := h.2.1 c' hc'
     omega
  ·rw [if_neg hn]
   exact ⟨fun h => .inr h, fun h => h.elim (fun h => absurd ⟨h.1, h.2.1⟩ hn) id⟩
theorem join_one (u : Spn) : joinS [u] = if u.i < u.o then [u] else [] := by
 unfold joinS srtR
 simp only [List.foldl_cons, List.foldl_nil]
 split
 ·rename_i h
  unfold putS mrg
  simp [stp, h]
 ·rfl
theorem part_has {c : Ct} {s : Spn} (hc : CutG c) (hs : chkS [s] = 0) :
  (∀ n, ((partV c s).2 = true ∧ (partV c s).1.has n) ↔ (c.i ≤ n ∧ n < c.o ∧ s.has (ledP (pcOf c) n))) ∧ ((partV c s).2 = true → 0 ≤ (partV c s).1.i ∧ (partV c s).1.i < (partV c s).1.o ∧ (partV c s).1.o ≤ c.o) := by
 have e : partV c s = hdV (joinS (preL [pcOf c] s)) := by
  unfold partV preP
  rw [if_pos hc.chk, if_pos hs]
 have hm := pre_mem hc.chk s
 have e2 : preL [pcOf c] s = [⟨reaP (pcOf c) s.i, reaP (pcOf c) s.o⟩] := rfl
 have b1 := rea_bd hc.sgl s.i
 have b2 := rea_bd hc.sgl s.o
 rw [e, e2, join_one]
 rw [e2] at hm
 have hl : ∀ n, (∃ y, Led [pcOf c] n y ∧ s.i ≤ y ∧ y < s.o) ↔ (c.i ≤ n ∧ n < c.o ∧ s.has (ledP (pcOf c) n)) := fun n => by
  constructor
  ·rintro ⟨y, ⟨p, hp, h1, h2, rfl⟩, h3, h4⟩
   rcases List.mem_singleton.1 hp with rfl
   exact ⟨h1, h2, h3, h4⟩
  ·rintro ⟨h1, h2, h3, h4⟩
   exact ⟨_, ⟨pcOf c, List.mem_singleton.2 rfl, h1, h2, rfl⟩, h3, h4⟩
 generalize reaP (pcOf c) s.i = a at *
 generalize reaP (pcOf c) s.o = b at *
 have c0 := hc.i0
 simp only [pcOf] at b1 b2
 by_cases hab : a < b
 ·rw [if_pos (show (⟨a, b⟩ : Spn).i < (⟨a, b⟩ : Spn).o from hab)]
  refine ⟨fun n => ?_, fun _ => ⟨by show 0 ≤ a; omega, hab, by show b ≤ c.o; omega⟩⟩
  rw [← hl n, ← hm n]
  show (true = true ∧ (⟨a, b⟩ : Spn).has n) ↔ _
  constructor
  ·exact fun h => ⟨_, List.mem_singleton.2 rfl, h.2⟩
  ·rintro ⟨u, hu, h⟩
   rcases List.mem_singleton.1 hu with rfl
   exact ⟨rfl, h⟩
 ·rw [if_neg (show ¬ (⟨a, b⟩ : Spn).i < (⟨a, b⟩ : Spn).o from hab)]
  refine ⟨fun n => ?_, fun h => (by cases h)⟩
  rw [← hl n, ← hm n]
  constructor
  ·exact fun h => (by cases h.1)
  ·rintro ⟨u, hu, h⟩
   rcases List.mem_singleton.1 hu with rfl
   have h1 : a ≤ n := h.1
   have h2 : n < b := h.2
   omega
/-- How many frames a part has. -/
def plen (c : Ct) (s : Spn) : Int := if (partV c s).2 = true then (partV c s).1.o - (partV c s).1.i else 0
theorem plen_cnt {c : Ct} {s : Spn} (hc : CutG c) (hs : chkS [s] = 0) {N : Nat} (hN : c.o ≤ N) : plen c s = cntP (fun n => c.i ≤ n ∧ n < c.o ∧ s.has (ledP (pcOf c) n)) N := by
 obtain ⟨h1, h2⟩ := part_has hc hs
 unfold plen
 by_cases hp : (partV c s).2 = true
 ·rw [if_pos hp]
  obtain ⟨k1, k2, k3⟩ := h2 hp
  rw [← cnt_congr (P := fun n => (partV c s).1.has n) (fun n => by rw [← h1 n]; exact ⟨fun h => ⟨hp, h⟩, fun h => h.2⟩) N]
  have h6 := cnt_span (s := (partV c s).1) k1 (by omega) (N := N)
  rw [if_neg (by omega)] at h6
  have h7 : cntP (partV c s).1.has N = (partV c s).1.o - (partV c s).1.i := by
   rw [h6]
   split <;> omega
  exact h7.symm
 ·rw [if_neg hp]
  exact (cnt_none (fun n _ _ h => hp ((h1 n).2 h).1)).symm
/-- The frames of the parts that cuts play of an event. -/
def sumC (nm : List UInt8) (s : Spn) : List Ct → Int
 | [] => 0
 | c :: t => (if c.reel = nm then plen c s else 0) + sumC nm s t
theorem sum_cnt {nm : List UInt8} {s : Spn} (hs : chkS [s] = 0) {N : Nat} : ∀ {l : List Ct}, Ord2 l → (∀ c ∈ l, c.o ≤ (N : Int)) → sumC nm s l = cntP (fun n => ∃ y, LedC l n nm y ∧ s.has y) N
 | [], _, _ => (cnt_none (fun n _ _ h => by obtain ⟨y, h, _⟩ := h; exact ledC_nil h)).symm
 | c :: t, ho, hN => by
  have ih := sum_cnt hs ho.2.2 (fun x hx => hN x (List.mem_cons_of_mem _ hx)) (nm := nm)
  have e1 : ∀ n, (∃ y, LedC (c :: t) n nm y ∧ s.has y) ↔ ((c.reel = nm ∧ c.i ≤ n ∧ n < c.o ∧ s.has (ledP (pcOf c) n)) ∨ ∃ y, LedC t n nm y ∧ s.has y) := fun n => by
   constructor
   ·rintro ⟨y, hl, hy⟩
    rw [show c :: t = [c] ++ t from rfl, ledC_append, ledC_one] at hl
    rcases hl with ⟨a1, a2, a3, rfl⟩ | hl
    ·exact .inl ⟨a3, a1, a2, hy⟩
    ·exact .inr ⟨y, hl, hy⟩
   ·rintro (⟨a1, a2, a3, a4⟩ | ⟨y, hl, hy⟩)
    ·exact ⟨_, ⟨c, List.mem_cons_self .., a2, a3, a1, rfl⟩, a4⟩
    ·refine ⟨y, ?_, hy⟩
     rw [show c :: t = [c] ++ t from rfl, ledC_append]
     exact .inr hl
  have h3 := cnt_two (fun n => c.reel = nm ∧ c.i ≤ n ∧ n < c.o ∧ s.has (ledP (pcOf c) n)) (fun n => ∃ y, LedC t n nm y ∧ s.has y) N
  have h4 : cntP (fun n => (c.reel = nm ∧ c.i ≤ n ∧ n < c.o ∧ s.has (ledP (pcOf c) n)) ∧ ∃ y, LedC t n nm y ∧ s.has y) N = 0 := cnt_none (fun n _ _ h => by
   obtain ⟨⟨_, a1, a2, _⟩, y, ⟨c', hc', b1, b2, _⟩, _⟩ := h
   have := ho.2.1 c' hc'
   omega)
  rw [cnt_congr e1]
  show (if c.reel = nm then plen c s else 0) + sumC nm s t = _
  rw [ih]
  have h5 : (if c.reel = nm then plen c s else 0) = cntP (fun n => c.reel = nm ∧ c.i ≤ n ∧ n < c.o ∧ s.has (ledP (pcOf c) n)) N := by
   by_cases hr : c.reel = nm
   ·rw [if_pos hr, plen_cnt ho.1 hs (hN c (List.mem_cons_self ..))]
    exact cnt_congr (fun n => ⟨fun h => ⟨hr, h⟩, fun h => h.2⟩) N
   ·rw [if_neg hr]
    exact (cnt_none (fun n _ _ h => hr h.1)).symm
  omega
def qB (q : Nat) (p : Nat × Ev) : Bool := p.1 == q
/-- The parts of the q-th fate. -/
def prtQ (q : Nat) (A : List (Nat × Ev)) : List (Nat × Ev) := A.filter (qB q)
def evLen (x : Ev) : Int := x.o - x.i
def lnQ (q : Nat) (A : List (Nat × Ev)) : Int := ((prtQ q A).map fun p => evLen p.2).sum
theorem fold_at (q : Nat) : ∀ (A : List (Nat × Ev)) (F : List Ft) (f : Ft), F[q]? = some f →
  (A.foldl (fun F q => match F[q.1]? with | some f => F.set q.1 (f.add q.2.id) | none => F) F)[q]? = some ⟨f.reel, f.id, f.parts ++ (prtQ q A).map (fun p => p.2.id), f.lost⟩
 | [], F, f, h => by
  simp only [List.foldl_nil, prtQ, List.filter_nil, List.map_nil, List.append_nil]
  exact h
 | p :: t, F, f, h => by
  rw [List.foldl_cons]
  by_cases hp : p.1 = q
  ·have e : (match F[p.1]? with | some f => F.set p.1 (f.add p.2.id) | none => F) = F.set q (f.add p.2.id) := by
    rw [hp, h]
   rw [e, fold_at q t _ (f.add p.2.id) (by rw [List.getElem?_set_self (List.getElem?_eq_some_iff.1 h).1])]
   have e2 : prtQ q (p :: t) = p :: prtQ q t := by
    unfold prtQ
    rw [List.filter_cons_of_pos (by unfold qB; simpa using hp)]
   rw [e2]
   simp [Ft.add]
  ·have e2 : prtQ q (p :: t) = prtQ q t := by
    unfold prtQ
    rw [List.filter_cons_of_neg (by unfold qB; simpa using hp)]
   rw [e2]
   refine fold_at q t _ f ?_
   split
   ·rw [List.getElem?_set_ne hp]
    exact h
   ·exact h
theorem fatA_at {l : List Rd} {d : Lst} {A : List (Nat × Ev)} {q : Nat} {f : Ft} (h : (fat0 l d)[q]? = some f) : (fatA l d A)[q]? = some ⟨f.reel, f.id, f.parts ++ (prtQ q A).map (fun p => p.2.id), f.lost⟩ := fold_at q A _ f h
/-- The parts are numbered. -/
def Numd (A : List (Nat × Ev)) : Prop := ∀ (k : Nat) (p : Nat × Ev), A[k]? = some p → p.2.id = (k : Int) + 1
theorem accE_numd {c : Ct} {q : Nat} {A : List (Nat × Ev)} {x : Ev} (h : Numd A) : Numd (accE c q A x) := by
 unfold accE
 split
 ·intro k p hp
  by_cases hk : k < A.length
  ·rw [List.getElem?_append_left hk] at hp
   exact h k p hp
  ·rw [List.getElem?_append_right (by omega)] at hp
   have h1 := (List.getElem?_eq_some_iff.1 hp).1
   simp only [List.length_singleton] at h1
   obtain rfl : k = A.length := by omega
   rw [Nat.sub_self] at hp
   cases hp
   rfl
 ·exact h
theorem accL_numd {c : Ct} {s : Nat} : ∀ {E : List Ev} {j : Nat} {A : List (Nat × Ev)}, Numd A → Numd (accL c s j E A)
 | [], _, _, h => h
 | x :: t, j, A, h => accL_numd (E := t) (accE_numd h)
theorem accC_numd {l : List Rd} {d : Lst} {c : Ct} {A : List (Nat × Ev)} (h : Numd A) : Numd (accC l d c A) := by
 unfold accC
 split
 ·split
  ·exact h
  ·exact accL_numd h
 ·exact h
theorem accJ_numd {l : List Rd} {d : Lst} : ∀ {J : List Ct} {A : List (Nat × Ev)}, Numd A → Numd (accJ l d J A)
 | [], _, h => h
 | c :: t, A, h => accJ_numd (J := t) (accC_numd h)
theorem raw_numd (l : List Rd) (d : Lst) : Numd (rawP l d) := accJ_numd (fun k p hp => by simp at hp)
theorem lnQ_snoc (q : Nat) (A : List (Nat × Ev)) (p : Nat × Ev) : lnQ q (A ++ [p]) = lnQ q A + (if p.1 = q then evLen p.2 else 0) := by
 unfold lnQ prtQ
 rw [List.filter_append]
 by_cases hp : p.1 = q
 ·rw [List.filter_cons_of_pos (by unfold qB; simpa using hp), if_pos hp]
  simp
 ·rw [List.filter_cons_of_neg (by unfold qB; simpa using hp), if_neg hp]
  simp
theorem lnQ_accE {c : Ct} {q q' : Nat} {A : List (Nat × Ev)} {x : Ev} : lnQ q (accE c q' A x) = lnQ q A + (if q' = q then plen c (evS x) else 0) := by
 unfold accE plen
 by_cases hp : (partV c (evS x)).2 = true
 ·rw [if_pos hp, if_pos hp, lnQ_snoc]
  rfl
 ·rw [if_neg hp, if_neg hp]
  simp
theorem lnQ_accL {c : Ct} {s q : Nat} : ∀ {E : List Ev} {j : Nat} {A : List (Nat × Ev)}, lnQ q (accL c s j E A) = lnQ q A + (if s + j ≤ q then (match E[q - (s + j)]? with | some x => plen c (evS x) | none => 0) else 0)
 | [], j, A => by
  show lnQ q A = _
  simp
 | x :: t, j, A => by
  show lnQ q (accL c s (j + 1) t (accE c (s + j) A x)) = _
  rw [lnQ_accL (E := t), lnQ_accE]
  by_cases h1 : s + j = q
  ·subst h1
   rw [if_pos rfl, if_neg (by omega), if_pos (Nat.le_refl _), Nat.sub_self]
   simp
  ·rw [if_neg h1]
   by_cases h2 : s + j ≤ q
   ·rw [if_pos (by omega), if_pos h2, show q - (s + j) = (q - (s + (j + 1))) + 1 by omega, List.getElem?_cons_succ]
    simp
   ·rw [if_neg (by omega), if_neg h2]
    simp
theorem staN_step {l : List Rd} {d : Lst} {k : Nat} {x : Rd} (h : l[k]? = some x) : staN l d (k + 1) = staN l d k + x.doc.evs.length := by
 unfold staN
 rw [fatK_step h, List.length_append, fatR_len]
theorem staN_mono {l : List Rd} {d : Lst} : ∀ {k n : Nat}, k ≤ n → staN l d k ≤ staN l d n := by
 intro k n h
 induction n with
 | zero => rw [show k = 0 by omega]; exact Nat.le_refl _
 | succ n ih =>
  by_cases hk : k = n + 1
  ·rw [hk]; exact Nat.le_refl _
  ·refine Nat.le_trans (ih (by omega)) ?_
   cases hx : l[n]? with
   | some x => rw [staN_step hx]; omega
   | none =>
    unfold staN fatK
    rw [List.take_add_one, hx]
    simp
theorem fnd_at {l : List Rd} (hd : ∀ (i j : Nat) (x y : Rd), l[i]? = some x → l[j]? = some y → x.reel = y.reel → i = j) {k : Nat} {x : Rd} (hx : l[k]? = some x) : fndD x.reel 0 l = (k : Int) := by
 rcases fnd_in (nm := x.reel) (l := l) (k := 0) with ⟨_, h⟩ | ⟨j, y, h1, h2, h3⟩
 ·exact absurd rfl (h x (List.mem_of_getElem? hx))
 ·rw [h1, Nat.zero_add, hd j k y x h2 hx h3]
theorem lnQ_accC {l : List Rd} {d : Lst} {c : Ct} {A : List (Nat × Ev)} (hd : ∀ (i j : Nat) (x y : Rd), l[i]? = some x → l[j]? = some y → x.reel = y.reel → i = j) {k j : Nat} {x : Rd} {e : Ev} (hk : l[k]? = some x) (hj : x.doc.evs[j]? = some e) :
  lnQ (staN l d k + j) (accC l d c A) = lnQ (staN l d k + j) A + (if c.reel = x.reel then plen c (evS e) else 0) := by
 have hjl : j < x.doc.evs.length := (List.getElem?_eq_some_iff.1 hj).1
 rcases fnd_in (nm := c.reel) (l := l) (k := 0) with ⟨h1, h2⟩ | ⟨m, y, h1, h2, h3⟩
 ·rw [accC_neg (by rw [h1]; decide), if_neg (fun e => h2 x (List.mem_of_getElem? hk) e.symm)]
  simp
 ·rw [Nat.zero_add] at h1
  rw [accC_at h1 h2, lnQ_accL]
  congr 1
  by_cases hm : m = k
  ·subst hm
   rw [hk] at h2
   cases h2
   rw [if_pos h3.symm, if_pos (by omega), show staN l d m + j - (staN l d m + 0) = j by omega, hj]
  ·have hr : ¬ c.reel = x.reel := fun e => hm (hd m k y x h2 hk (h3.trans e))
   rw [if_neg hr]
   by_cases hlt : m < k
   ·have a1 := staN_mono (l := l) (d := d) (show m + 1 ≤ k by omega)
    rw [staN_step h2] at a1
    rw [if_pos (by omega), List.getElem?_eq_none (by omega)]
   ·have a1 := staN_mono (l := l) (d := d) (show k + 1 ≤ m by omega)
    rw [staN_step hk] at a1
    rw [if_neg (by omega)]
theorem lnQ_accJ {l : List Rd} {d : Lst} (hd : ∀ (i j : Nat) (x y : Rd), l[i]? = some x → l[j]? = some y → x.reel = y.reel → i = j) {k j : Nat} {x : Rd} {e : Ev} (hk : l[k]? = some x) (hj : x.doc.evs[j]? = some e) :
  ∀ {J : List Ct} {A : List (Nat × Ev)}, lnQ (staN l d k + j) (accJ l d J A) = lnQ (staN l d k + j) A + sumC x.reel (evS e) J
 | [], A => by
  show lnQ _ A = _ + 0
  omega
 | c :: t, A => by
  show lnQ _ (accJ l d t (accC l d c A)) = _
  rw [lnQ_accJ hd hk hj (J := t), lnQ_accC hd hk hj]
  show _ = lnQ (staN l d k + j) A + ((if c.reel = x.reel then plen c (evS e) else 0) + sumC x.reel (evS e) t)
  omega
/-- Which fate is the q-th. -/
theorem fat0_dec {l : List Rd} {d : Lst} {q : Nat} {f : Ft} (h : (fat0 l d)[q]? = some f) : ∃ k x j e, l[k]? = some x ∧ x.doc.evs[j]? = some e ∧ q = staN l d k + j ∧ f = ⟨x.reel, e.id, [], lostV (evS e) (plyG d x.reel).1⟩ := by
 have key : ∀ n, (fatK l d n)[q]? = some f → ∃ k x j e, l[k]? = some x ∧ x.doc.evs[j]? = some e ∧ q = staN l d k + j ∧ f = ⟨x.reel, e.id, [], lostV (evS e) (plyG d x.reel).1⟩ := by
  intro n
  induction n with
  | zero => intro h; unfold fatK at h; simp at h
  | succ n ih =>
   intro h
   cases hx : l[n]? with
   | none =>
    refine ih ?_
    unfold fatK at *
    rw [List.take_add_one, hx] at h
    simpa using h
   | some x =>
    rw [fatK_step hx] at h
    by_cases hq : q < (fatK l d n).length
    ·rw [List.getElem?_append_left hq] at h
     exact ih h
    ·rw [List.getElem?_append_right (by omega)] at h
     unfold fatR at h
     rw [List.getElem?_map] at h
     cases he : x.doc.evs[q - (fatK l d n).length]? with
     | none => rw [he] at h; cases h
     | some e =>
      rw [he] at h
      cases h
      exact ⟨n, x, q - (fatK l d n).length, e, hx, he, by unfold staN; omega, rfl⟩
 refine key l.length ?_
 rw [fatK_all]
 exact h
theorem fndI_at {id : Int} : ∀ {L : List Ev} {k j : Nat} {x : Ev}, L[j]? = some x → x.id = id → (∀ i y, i < j → L[i]? = some y → y.id ≠ id) → fndI id k L = ((k + j : Nat) : Int)
 | [], k, j, x, h, _, _ => by simp at h
 | y :: t, k, j, x, h, he, hn => by
  unfold fndI
  cases j with
  | zero =>
   cases h
   rw [if_pos he]
   rfl
  | succ j =>
   rw [if_neg (hn 0 y (by omega) rfl), fndI_at (L := t) (k := k + 1) (j := j) h he (fun i z hi hz => hn (i + 1) z (by omega) hz)]
   congr 1
   omega
theorem find_raw {A : List (Nat × Ev)} (h : Numd A) {k : Nat} {p : Nat × Ev} (hp : A[k]? = some p) : fndI p.2.id 0 (evsA A) = (k : Int) ∧ (evsA A)[k]? = some p.2 := by
 have e : (evsA A)[k]? = some p.2 := by unfold evsA; rw [List.getElem?_map, hp]; rfl
 refine ⟨?_, e⟩
 rw [fndI_at e rfl (fun i y hi hy => ?_), Nat.zero_add]
 unfold evsA at hy
 rw [List.getElem?_map] at hy
 cases hz : A[i]? with
 | none => rw [hz] at hy; cases hy
 | some z =>
  rw [hz] at hy
  cases hy
  rw [h i z hz, h k p hp]
  omega
/-- The frames of events that are found by their numbers. -/
def parS (E : List Ev) : Int → List Int → Int
 | n, [] => n
 | n, id :: t => parS E (match E[(fndI id 0 E).toNat]? with | some x => n + (x.o - x.i) | none => n) t
theorem parS_drop {E : List Ev} {L : List Int} {k : Nat} {id n : Int} (h : L[k]? = some id) : parS E n (L.drop k) = parS E (match E[(fndI id 0 E).toNat]? with | some x => n + (x.o - x.i) | none => n) (L.drop (k + 1)) := by
 rw [List.drop_eq_getElem_cons (List.getElem?_eq_some_iff.1 h).1, (List.getElem?_eq_some_iff.1 h).2]
 rfl
theorem parS_sum {A : List (Nat × Ev)} (h : Numd A) : ∀ (B : List (Nat × Ev)) (n : Int), (∀ p ∈ B, p ∈ A) → parS (evsA A) n (B.map fun p => p.2.id) = n + (B.map fun p => evLen p.2).sum
 | [], n, _ => by
  show n = n + 0
  omega
 | p :: t, n, hB => by
  obtain ⟨k, hk⟩ := List.getElem?_of_mem (hB p (List.mem_cons_self ..))
  obtain ⟨e1, e2⟩ := find_raw h hk
  show parS (evsA A) (match (evsA A)[(fndI p.2.id 0 (evsA A)).toNat]? with | some x => n + (x.o - x.i) | none => n) (t.map fun p => p.2.id) = _
  rw [e1, Int.toNat_natCast, e2]
  simp only []
  rw [parS_sum h t _ (fun q hq => hB q (List.mem_cons_of_mem _ hq))]
  rw [List.map_cons, List.sum_cons]
  show _ = n + ((p.2.o - p.2.i) + _)
  omega
theorem evs_dist {dc : Dc} (h : dcE dc = 0) : ∀ (i j : Nat) (x y : Ev), i < j → dc.evs[i]? = some x → dc.evs[j]? = some y → x.id ≠ y.id := by
 have key : ∀ n, ∀ (i : Nat) (x : Ev), i < n → dc.evs[i]? = some x → (mpF dc.evs n x.id).isSome = true := by
  intro n
  induction n with
  | zero => intro i x h; omega
  | succ n ih =>
   intro i x hin hx
   cases hy : dc.evs[n]? with
   | none =>
    have h1 := (List.getElem?_eq_some_iff.1 hx).1
    have h2 := List.getElem?_eq_none_iff.1 hy
    have e : mpF dc.evs (n + 1) = mpF dc.evs n := by
     show (match dc.evs[n]? with | some x => setG (mpF dc.evs n) x.id n | none => mpF dc.evs n) = _
     rw [hy]
    rw [e]
    exact ih i x (by omega) hx
   | some y =>
    rw [mpF_succ hy]
    unfold setG
    by_cases he : x.id = y.id
    ·rw [if_pos he]; rfl
    ·rw [if_neg he]
     refine ih i x ?_ hx
     have : i ≠ n := fun e => by
      subst e
      rw [hx] at hy
      cases hy
      exact he rfl
     omega
 intro i j x y hij hx hy he
 have e := evL_ok (dcE_evl h).2 j y hy
 unfold evN at e
 have k := key j i x hij hx
 rw [he] at k
 by_cases h0 : evE y dc.regs = 0
 ·rw [if_neg (by simpa using h0)] at e
  by_cases h1 : dc.last < y.id
  ·rw [if_pos h1] at e
   exact absurd e (by decide)
  ·rw [if_neg h1, Nat.zero_add] at e
   rw [if_pos k] at e
   have key2 : ∀ b : Bool, (if b = true then (8 : Int) else 7) ≠ 0 := by decide
   exact absurd e (key2 _)
 ·rw [if_pos h0] at e
  exact absurd e h0
theorem doc_at {l : List Rd} (hd : ∀ (i j : Nat) (x y : Rd), l[i]? = some x → l[j]? = some y → x.reel = y.reel → i = j) {k : Nat} {x : Rd} (hx : l[k]? = some x) : docL x.reel l = (x.doc, true) := by
 have key : ∀ (t : List Rd), (∀ y ∈ t, y.reel = x.reel → y = x) → x ∈ t → docL x.reel t = (x.doc, true) := by
  intro t
  induction t with
  | nil => intro _ h; cases h
  | cons y r ih =>
   intro h hm
   unfold docL
   by_cases he : y.reel = x.reel
   ·rw [if_pos he, h y (List.mem_cons_self ..) he]
   ·rw [if_neg he]
    rcases List.mem_cons.1 hm with rfl | hm
    ·exact absurd rfl he
    ·exact ih (fun z hz => h z (List.mem_cons_of_mem _ hz)) hm
 refine key l (fun y hy he => ?_) (List.mem_of_getElem? hx)
 obtain ⟨j, hj⟩ := List.getElem?_of_mem hy
 obtain rfl := hd j k y x hj hx he
 rw [hx] at hj
 cases hj
 rfl
theorem rst_len2 (top : Int) : ∀ (L : List Spn) (a : Int), (rstS top a L).length ≤ L.length + 1
 | [], a => by unfold rstS; simp
 | x :: t, a => by
  have ih := rst_len2 top t
  unfold rstS
  split
  ·have := ih x.o
   simp only [List.length_cons]
   omega
  ·have := ih x.o
   simp only [List.length_cons]
   omega
theorem com_one_len (s : Spn) (B : List Spn) : (comS [s] B).length ≤ B.length := by
 unfold comS
 rw [List.flatMap_cons, List.flatMap_nil, List.append_nil]
 exact Nat.le_trans (List.length_filter_le _ _) (by rw [List.length_map]; exact Nat.le_refl _)
theorem ply_zero {d : Lst} (h : lstE d = 0) (nm : List UInt8) : (plyG d nm).2 = 0 ∧ chkS (plyG d nm).1 = 0 ∧ (plyG d nm).1.length ≤ 64 := by
 obtain ⟨h1, h2⟩ := lst_ok h
 have hl := ply_len nm d.cuts
 have e : plyG d nm = (joinS (plyL nm d.cuts), 0) := by
  unfold plyG
  rw [if_pos h]
  refine nor_in (by omega) (fun s hs => ?_)
  unfold plyL at hs
  obtain ⟨c, hc, hs⟩ := List.mem_flatMap.1 hs
  split at hs
  ·rcases List.mem_singleton.1 hs with rfl
   have g := h1.cut c hc
   have := g.la
   exact ⟨g.s0, by show lastV c + 1 ≤ 5184000; omega⟩
  ·cases hs
 have e2 : (norS (plyL nm d.cuts)) = plyG d nm := by unfold plyG; rw [if_pos h]
 have e3 : (norS (plyL nm d.cuts)).2 = 0 := by rw [e2, e]
 refine ⟨by rw [e], by rw [← e2]; exact (norS_chk e3).1, ?_⟩
 rw [e]
 exact Nat.le_trans (joinS_len _) (by omega)
/-- The frames that are lost. -/
theorem lost_gap {d : Lst} (h : lstE d = 0) (nm : List UInt8) {s : Spn} (hs : chkS [s] = 0) :
  (plyG d nm).2 = 0 ∧ (gapS (plyG d nm).1 s).2 = 0 ∧ lnS (gapS (plyG d nm).1 s).1 = (lostV s (plyG d nm).1, 0) ∧ (gapS (plyG d nm).1 s).1.length ≤ 400 := by
 obtain ⟨h1, h2, h3⟩ := ply_zero h nm
 generalize (plyG d nm).1 = L at *
 have e : gapS L s = subS [s] L := by unfold gapS; rw [if_pos h2]
 have e2 : (subS [s] L).2 = 0 := by
  unfold subS
  rw [if_pos (twoS_ok.2 ⟨hs, h2⟩)]
  unfold limS
  rw [if_neg (by
   have a1 := com_one_len s (rstS (mT + 1) 0 L)
   have a2 := rst_len2 (mT + 1) L 0
   omega)]
 have k := (subS_ok e2).2.2.1
 refine ⟨h1, by rw [e]; exact e2, ?_, by rw [e]; exact sub_one_len s L⟩
 rw [e]
 unfold lostV
 have : (lnS (subS [s] L).1).2 = 0 := by unfold lnS; rw [if_pos k]
 exact Prod.ext rfl this
def RawIn (A : List (Nat × Ev)) : Prop := ∀ p ∈ A, 0 ≤ p.2.i ∧ p.2.i < p.2.o ∧ p.2.o ≤ 5184000
theorem accE_in {c : Ct} {q : Nat} {A : List (Nat × Ev)} {x : Ev} (hc : CutG c) (hs : chkS [evS x] = 0) (h : RawIn A) : RawIn (accE c q A x) := by
 unfold accE
 split
 ·rename_i hp
  intro p hm
  rcases List.mem_append.1 hm with hm | hm
  ·exact h p hm
  ·rcases List.mem_singleton.1 hm with rfl
   obtain ⟨k1, k2, k3⟩ := (part_has hc hs).2 hp
   have := hc.o1
   exact ⟨k1, k2, Int.le_trans k3 this⟩
 ·exact h
theorem accL_in {c : Ct} {s : Nat} (hc : CutG c) : ∀ {E : List Ev} {j : Nat} {A : List (Nat × Ev)}, (∀ x ∈ E, chkS [evS x] = 0) → RawIn A → RawIn (accL c s j E A)
 | [], _, _, _, h => h
 | x :: t, j, A, hE, h => accL_in hc (E := t) (fun y hy => hE y (List.mem_cons_of_mem _ hy)) (accE_in hc (hE x (List.mem_cons_self ..)) h)
theorem accC_in {l : List Rd} {d : Lst} {c : Ct} {A : List (Nat × Ev)} (hc : CutG c) (hE : ∀ x ∈ l, ∀ e ∈ x.doc.evs, chkS [evS e] = 0) (h : RawIn A) : RawIn (accC l d c A) := by
 unfold accC
 split
 ·rename_i x hx
  split
  ·exact h
  ·exact accL_in hc (hE x (List.mem_of_getElem? hx)) h
 ·exact h
theorem accJ_in {l : List Rd} {d : Lst} (hE : ∀ x ∈ l, ∀ e ∈ x.doc.evs, chkS [evS e] = 0) : ∀ {J : List Ct} {A : List (Nat × Ev)}, (∀ c ∈ J, CutG c) → RawIn A → RawIn (accJ l d J A)
 | [], _, _, h => h
 | c :: t, A, hJ, h => accJ_in hE (J := t) (fun y hy => hJ y (List.mem_cons_of_mem _ hy)) (accC_in (hJ c (List.mem_cons_self ..)) hE h)
theorem ev_chk {l : List Rd} {d : Lst} (h : ConfOk l d) {x : Rd} (hx : x ∈ l) {e : Ev} (he : e ∈ x.doc.evs) : (0 ≤ e.i ∧ e.i < e.o ∧ e.o ≤ 5184000) ∧ chkS [evS e] = 0 := by
 obtain ⟨k, hk⟩ := List.getElem?_of_mem hx
 obtain ⟨_, hsp, _, _⟩ := evE_zero (dcE_ev (h.docs k x hk).2.2.1 e he)
 refine ⟨hsp, chkS_ok.2 ⟨by simp, ⟨hsp.2.1, fun t ht => (by cases ht), trivial⟩, fun s hs => ?_⟩⟩
 rcases List.mem_singleton.1 hs with rfl
 exact ⟨hsp.1, by show e.o ≤ 10378368000; omega⟩
theorem raw_in {l : List Rd} {d : Lst} (h : ConfOk l d) : RawIn (rawP l d) :=
 accJ_in (fun x hx e he => (ev_chk h hx he).2) (fun c hc => (jn_all (lst_ok h.lst).1).1.cut c hc) (fun p hp => by cases hp)
/-- How many record frames play a frame of an event. -/
def seenV (d : Lst) (nm : List UInt8) (s : Spn) : Nat → Int
 | 0 => 0
 | n + 1 => seenV d nm s n + (if (atG d n).2.2 = true ∧ (atG d n).1 = nm ∧ s.i ≤ (atG d n).2.1 ∧ (atG d n).2.1 < s.o then 1 else 0)
theorem seen_cnt {d : Lst} (h : lstE d = 0) (nm : List UInt8) (s : Spn) : ∀ n, seenV d nm s n = cntP (fun n => ∃ y, LedC d.cuts n nm y ∧ s.has y) n
 | 0 => rfl
 | n + 1 => by
  unfold seenV cntP
  rw [seen_cnt h nm s n]
  congr 1
  have ho := (lst_ok h).1
  have e : atG d n = atL n d.cuts := by unfold atG; rw [if_pos h]
  have k : ((atG d n).2.2 = true ∧ (atG d n).1 = nm ∧ s.i ≤ (atG d n).2.1 ∧ (atG d n).2.1 < s.o) ↔ ∃ y, LedC d.cuts n nm y ∧ s.has y := by
   rw [e]
   constructor
   ·rintro ⟨k1, k2, k3, k4⟩
    exact ⟨_, (atL_led ho n nm _).1 ⟨k1, k2, rfl⟩, k3, k4⟩
   ·rintro ⟨y, hl, k3, k4⟩
    obtain ⟨k1, k2, rfl⟩ := (atL_led ho n nm y).2 hl
    exact ⟨k1, k2, k3, k4⟩
  by_cases hk : ∃ y, LedC d.cuts n nm y ∧ s.has y
  ·rw [if_pos hk, if_pos (k.2 hk)]
  ·rw [if_neg hk, if_neg (fun h => hk (k.1 h))]
theorem lenG_in : ∀ {l : List Ct} {n : Int}, n ≤ lenGL n l ∧ ∀ c ∈ l, c.o ≤ lenGL n l
 | [], n => ⟨Int.le_refl _, fun c hc => (by cases hc)⟩
 | x :: t, n => by
  have ih := lenG_in (l := t) (n := max n x.o)
  unfold lenGL
  refine ⟨by omega, fun c hc => ?_⟩
  rcases List.mem_cons.1 hc with rfl | hc
  ·omega
  ·exact ih.2 c hc
/-- What the statement asks of a fate. -/
structure FateOk (l : List Rd) (d : Lst) (E : List Ev) (f : Ft) (x : Rd) (e : Ev) (j : Nat) : Prop where
 doc : docL f.reel l = (x.doc, true)
 find : fndI f.id 0 x.doc.evs = (j : Int)
 ev : x.doc.evs[j]? = some e
 span : 0 ≤ e.i ∧ e.i < e.o ∧ e.o ≤ 5184000
 parts : ∀ id ∈ f.parts, ∃ (k : Nat) (y : Ev), fndI id 0 E = (k : Int) ∧ E[k]? = some y ∧ 0 ≤ y.i ∧ y.i < y.o ∧ y.o ≤ 5184000
 seen : seenV d f.reel (evS e) (lenG d.cuts).toNat = parS E 0 f.parts
 play : (plyG d f.reel).2 = 0
 gaps : (gapS (plyG d f.reel).1 (evS e)).2 = 0
 lost : lnS (gapS (plyG d f.reel).1 (evS e)).1 = (f.lost, 0)
 gl : (gapS (plyG d f.reel).1 (evS e)).1.length ≤ 400
 pl : (plyG d f.reel).1.length ≤ 64
 plen : f.parts.length ≤ E.length
theorem fates_ok {l : List Rd} {d : Lst} (h : ConfOk l d) {q : Nat} {f : Ft} (hf : (fatA l d (rawP l d))[q]? = some f) : ∃ x e j, x ∈ l ∧ FateOk l d (evsA (rawP l d)) f x e j := by
 have hd := ord_dist h
 have hql : q < (fat0 l d).length := by rw [← fatA_len l d (rawP l d)]; exact (List.getElem?_eq_some_iff.1 hf).1
 obtain ⟨f0, hf0⟩ : ∃ f0, (fat0 l d)[q]? = some f0 := ⟨_, List.getElem?_eq_getElem hql⟩
 obtain ⟨k, x, j, e, hk, hj, rfl, rfl⟩ := fat0_dec hf0
 have hf2 := fatA_at (A := rawP l d) hf0
 rw [hf] at hf2
 have hf3 := Option.some.inj hf2
 clear hf2 hf
 subst hf3
 have hdc := (h.docs k x hk).2.2.1
 obtain ⟨hsp, hcs⟩ := ev_chk h (List.mem_of_getElem? hk) (List.mem_of_getElem? hj)
 obtain ⟨ho, hcl⟩ := lst_ok h.lst
 obtain ⟨jo, jb, jl⟩ := jn_all ho
 obtain ⟨g1, g2, g3, g4⟩ := lost_gap h.lst x.reel hcs
 have hmem : ∀ p ∈ prtQ (staN l d k + j) (rawP l d), p ∈ rawP l d := fun p hp => (List.mem_filter.1 hp).1
 have N := raw_numd l d
 refine ⟨x, e, j, List.mem_of_getElem? hk, doc_at hd hk, ?_, hj, hsp, ?_, ?_, g1, g2, g3, g4, (ply_zero h.lst x.reel).2.2, ?_⟩
 ·show fndI e.id 0 x.doc.evs = _
  rw [fndI_at hj rfl (fun i y hi hy => evs_dist hdc i j y e hi hy hj), Nat.zero_add]
 ·intro id hid
  simp only [List.nil_append] at hid
  obtain ⟨p, hp, rfl⟩ := List.mem_map.1 hid
  obtain ⟨m, hm⟩ := List.getElem?_of_mem (hmem p hp)
  obtain ⟨a1, a2⟩ := find_raw N hm
  exact ⟨m, p.2, a1, a2, raw_in h p (hmem p hp)⟩
 ·show seenV d x.reel (evS e) _ = parS _ 0 ([] ++ _)
  rw [List.nil_append, parS_sum N _ 0 hmem, Int.zero_add, seen_cnt h.lst]
  have e1 : ((prtQ (staN l d k + j) (rawP l d)).map fun p => evLen p.2).sum = lnQ (staN l d k + j) (rawP l d) := rfl
  rw [e1]
  unfold rawP
  rw [lnQ_accJ hd hk hj]
  have e2 : lnQ (staN l d k + j) [] = 0 := rfl
  have hN := lenG_in (l := d.cuts) (n := 0)
  have e3 : (((lenG d.cuts).toNat : Nat) : Int) = lenG d.cuts := Int.toNat_of_nonneg hN.1
  rw [e2, Int.zero_add, sum_cnt hcs (N := (lenG d.cuts).toNat) jo (fun c hc => by
   obtain ⟨c', hc', e4⟩ := jb c hc
   rw [e3, e4]
   exact hN.2 c' hc')]
  exact cnt_congr (fun n => ⟨fun ⟨y, a, b⟩ => ⟨y, (jl n x.reel y).2 a, b⟩, fun ⟨y, a, b⟩ => ⟨y, (jl n x.reel y).1 a, b⟩⟩) _
 ·rw [evsA_len]
  simp only [List.nil_append, List.length_map]
  exact List.length_filter_le _ _
end Go.Proofs.YtmopjhbfobmklaaGreatDoor
