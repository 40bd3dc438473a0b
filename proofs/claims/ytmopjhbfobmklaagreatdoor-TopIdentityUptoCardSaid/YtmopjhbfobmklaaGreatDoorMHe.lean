/-
  What a conform's report says, in plain words: an event's parts have as many frames as record frames play it, its lost frames are those that no cut runs over. The conditions are the hypotheses.
-/
import Derived.Test.YtmopjhbfobmklaaGreatDoorMHc
set_option maxRecDepth 100000
set_option maxHeartbeats 40000000
namespace Go.Proofs.YtmopjhbfobmklaaGreatDoor
set_option linter.unusedVariables false
set_option linter.unusedSimpArgs false
theorem CutG.sgl {x : Ct} (h : CutG x) : sglP (pcOf x) = 0 := sgl_ok.2 ⟨h.io, h.i0, h.o1, h.sp, h.s0, h.s1, h.la⟩
theorem CutG.chk {x : Ct} (h : CutG x) : chkP [pcOf x] = 0 :=
 chkP_ok.2 ⟨by simp, fun p hp => by rcases List.mem_singleton.1 hp with rfl; exact h.sgl, ⟨fun q hq => (by cases hq), trivial⟩⟩
def LedC (l : List Ct) (n : Int) (nm : List UInt8) (y : Int) : Prop := ∃ c ∈ l, c.i ≤ n ∧ n < c.o ∧ c.reel = nm ∧ y = ledP (pcOf c) n
theorem ledC_nil {n : Int} {nm : List UInt8} {y : Int} : ¬ LedC [] n nm y := by rintro ⟨c, h, _⟩; cases h
theorem ledC_append {l m : List Ct} {n : Int} {nm : List UInt8} {y : Int} : LedC (l ++ m) n nm y ↔ LedC l n nm y ∨ LedC m n nm y := by
 constructor
 ·rintro ⟨c, hc, h⟩
  rcases List.mem_append.1 hc with hc | hc
  ·exact .inl ⟨c, hc, h⟩
  exact .inr ⟨c, hc, h⟩
 rintro (⟨c, hc, h⟩ | ⟨c, hc, h⟩)
 ·exact ⟨c, List.mem_append_left _ hc, h⟩
 exact ⟨c, List.mem_append_right _ hc, h⟩
theorem ledC_one {c : Ct} {n : Int} {nm : List UInt8} {y : Int} : LedC [c] n nm y ↔ c.i ≤ n ∧ n < c.o ∧ c.reel = nm ∧ y = ledP (pcOf c) n := by
 constructor
 ·rintro ⟨x, hx, h⟩
  rcases List.mem_singleton.1 hx with rfl
  exact h
 exact fun h => ⟨c, List.mem_singleton.2 rfl, h⟩
theorem ord2_snoc : ∀ {M : List Ct} {z : Ct}, Ord2 (M ++ [z]) ↔ Ord2 M ∧ CutG z ∧ ∀ y ∈ M, y.o ≤ z.i
 | [], z => ⟨fun h => ⟨trivial, h.1, fun y hy => (by cases hy)⟩, fun h => ⟨h.2.1, fun y hy => (by cases hy), trivial⟩⟩
 | a :: t, z => by
  have ih := ord2_snoc (M := t) (z := z)
  constructor
  ·rintro ⟨h1, h2, h3⟩
   obtain ⟨k1, k2, k3⟩ := ih.1 h3
   refine ⟨⟨h1, fun y hy => h2 y (List.mem_append_left _ hy), k1⟩, k2, fun y hy => ?_⟩
   rcases List.mem_cons.1 hy with rfl | hy
   ·exact h2 z (by simp)
   exact k3 y hy
  rintro ⟨⟨h1, h2, h3⟩, h4, h5⟩
  refine ⟨h1, fun y hy => ?_, ih.2 ⟨h3, h4, fun y hy => h5 y (List.mem_cons_of_mem _ hy)⟩⟩
  rcases List.mem_append.1 hy with hy | hy
  ·exact h2 y hy
  rcases List.mem_singleton.1 hy with rfl
  exact h5 a (List.mem_cons_self ..)
theorem ord2_pair : ∀ {l : List Ct}, Ord2 l → ∀ (i j : Nat) (x y : Ct), i < j → l[i]? = some x → l[j]? = some y → x.o ≤ y.i
 | [], _, i, j, x, y, _, hx, _ => by simp at hx
 | a :: t, h, i, j, x, y, hij, hx, hy => by
  obtain ⟨j', rfl⟩ : ∃ j', j = j' + 1 := ⟨j - 1, by omega⟩
  rw [List.getElem?_cons_succ] at hy
  cases i with
  | zero =>
   rw [List.getElem?_cons_zero] at hx
   cases hx
   exact h.2.1 y (List.mem_of_getElem? hy)
  | succ i =>
   rw [List.getElem?_cons_succ] at hx
   exact ord2_pair h.2.2 i j' x y (by omega) hx hy
theorem goon_eq {a b : Ct} (h : goonB a b = true) : a.reel = b.reel ∧ a.sn = 1 ∧ a.sd = 1 ∧ b.sn = 1 ∧ b.sd = 1 ∧ a.o = b.i ∧ a.src + a.o - a.i = b.src := by
 unfold goonB at h
 simp only [Bool.and_eq_true, decide_eq_true_eq] at h
 obtain ⟨⟨⟨⟨h1, h2, h3⟩, h4, h5⟩, h6⟩, h7⟩ := h
 exact ⟨h1, h2, h3, h4, h5, h6, h7⟩
theorem led_one1 {c : Ct} (h1 : c.sn = 1) (h2 : c.sd = 1) (n : Int) : ledP (pcOf c) n = c.src + (n - c.i) := by
 unfold ledP pcOf
 rw [h1, h2, Int.mul_one, Int.ediv_one]
theorem jn_led {l : List Ct} (h : Ord2 l) : ∀ k, Ord2 (jnF l k) ∧ (∀ c ∈ jnF l k, ∃ c' ∈ l.take k, c.o = c'.o) ∧ ∀ n nm y, LedC (jnF l k) n nm y ↔ LedC (l.take k) n nm y := by
 intro k
 induction k with
 | zero => exact ⟨trivial, fun c hc => (by cases hc), fun n nm y => Iff.rfl⟩
 | succ k ih =>
  obtain ⟨i1, i2, i3⟩ := ih
  cases hx : l[k]? with
  | none =>
   have e1 : l.take (k + 1) = l.take k := by rw [List.take_add_one, hx]; simp
   have e2 : jnF l (k + 1) = jnF l k := by unfold jnF jnR; rw [e1]
   rw [e1, e2]
   exact ⟨i1, i2, i3⟩
  | some x =>
   have e1 : l.take (k + 1) = l.take k ++ [x] := by rw [List.take_add_one, hx]; rfl
   have gx := h.cut x (List.mem_of_getElem? hx)
   have lo : ∀ c ∈ jnF l k, c.o ≤ x.i := fun c hc => by
    obtain ⟨c', hc', e⟩ := i2 c hc
    obtain ⟨j, hj⟩ := List.getElem?_of_mem hc'
    have hjk : j < k := by
     have := (List.getElem?_eq_some_iff.1 hj).1
     rw [List.length_take] at this
     omega
    rw [List.getElem?_take_of_lt hjk] at hj
    rw [e]
    exact ord2_pair h j k c' x hjk hj hx
   rw [e1]
   rcases jnF_cases l k with h0 | ⟨M, z, h0⟩
   ·rw [jnF_nil hx h0]
    rw [h0] at i3
    refine ⟨⟨gx, fun y hy => (by cases hy), trivial⟩, fun c hc => ⟨x, by simp, by rcases List.mem_singleton.1 hc with rfl; rfl⟩, fun n nm y => ?_⟩
    rw [ledC_append, ← i3 n nm y]
    exact ⟨fun h => .inr h, fun h => h.elim (fun h => absurd h ledC_nil) id⟩
   rw [jnF_more hx h0]
   rw [h0] at i1 i2 i3 lo
   by_cases hg : goonB z x = true
   ·rw [if_pos hg]
    obtain ⟨g1, g2, g3, g4, g5, g6, g7⟩ := goon_eq hg
    obtain ⟨o1, o2, o3⟩ := ord2_snoc.1 i1
    have gz : CutG ⟨z.num, z.reel, z.src, z.i, x.o, z.sn, z.sd⟩ := by
     have a1 := gx.io
     have a2 := o2.io
     refine ⟨o2.i0, by simp only []; omega, gx.o1, o2.s0, o2.s1, o2.sp, ?_⟩
     have b1 := gx.la
     unfold lastV at b1 ⊢
     rw [led_one1 g4 g5] at b1
     rw [led_one1 (c := ⟨z.num, z.reel, z.src, z.i, x.o, z.sn, z.sd⟩) g2 g3]
     simp only []
     omega
    refine ⟨ord2_snoc.2 ⟨o1, gz, o3⟩, fun c hc => ?_, fun n nm y => ?_⟩
    ·rcases List.mem_append.1 hc with hc | hc
     ·obtain ⟨c', h1, h2⟩ := i2 c (List.mem_append_left _ hc)
      exact ⟨c', List.mem_append_left _ h1, h2⟩
     rcases List.mem_singleton.1 hc with rfl
     exact ⟨x, by simp, rfl⟩
    rw [ledC_append, ledC_append, ← i3 n nm y, ledC_append, ledC_one, ledC_one, ledC_one]
    have el : ledP (pcOf ⟨z.num, z.reel, z.src, z.i, x.o, z.sn, z.sd⟩) n = ledP (pcOf z) n := rfl
    rw [el]
    simp only []
    have a1 := gx.io
    have a2 := o2.io
    have l1 := led_one1 g2 g3 n
    have l2 := led_one1 g4 g5 n
    constructor
    ·rintro (h | ⟨h1, h2, h3, h4⟩)
     ·exact .inl (.inl h)
     by_cases hn : n < z.o
     ·exact .inl (.inr ⟨h1, hn, h3, h4⟩)
     exact .inr ⟨by omega, h2, g1 ▸ h3, by omega⟩
    rintro ((h | ⟨h1, h2, h3, h4⟩) | ⟨h1, h2, h3, h4⟩)
    ·exact .inl h
    ·exact .inr ⟨h1, by omega, h3, h4⟩
    exact .inr ⟨by omega, h2, g1.trans h3, by omega⟩
   rw [if_neg hg]
   refine ⟨ord2_snoc.2 ⟨i1, gx, lo⟩, fun c hc => ?_, fun n nm y => ?_⟩
   ·rcases List.mem_append.1 hc with hc | hc
    ·obtain ⟨c', h1, h2⟩ := i2 c hc
     exact ⟨c', List.mem_append_left _ h1, h2⟩
    rcases List.mem_singleton.1 hc with rfl
    exact ⟨c, by simp, rfl⟩
   rw [ledC_append (l := M ++ [z]), ledC_append (l := l.take k), ← i3 n nm y]
theorem jn_all {l : List Ct} (h : Ord2 l) : Ord2 (jnC l) ∧ (∀ c ∈ jnC l, ∃ c' ∈ l, c.o = c'.o) ∧ ∀ n nm y, LedC (jnC l) n nm y ↔ LedC l n nm y := by
 have := jn_led h l.length
 rwa [List.take_length, jnF_all] at this
theorem atL_led : ∀ {l : List Ct}, Ord2 l → ∀ (n : Int) (nm : List UInt8) (y : Int), ((atL n l).2.2 = true ∧ (atL n l).1 = nm ∧ (atL n l).2.1 = y) ↔ LedC l n nm y
 | [], _, n, nm, y => ⟨fun h => (by cases h.1), fun h => absurd h ledC_nil⟩
 | c :: t, h, n, nm, y => by
  have ih := atL_led h.2.2 n nm y
  rw [show c :: t = [c] ++ t from rfl, ledC_append, ledC_one, ← ih]
  show ((if c.i ≤ n ∧ n < c.o then (c.reel, ledP (pcOf c) n, true) else atL n t).2.2 = true ∧ (if c.i ≤ n ∧ n < c.o then (c.reel, ledP (pcOf c) n, true) else atL n t).1 = nm ∧ (if c.i ≤ n ∧ n < c.o then (c.reel, ledP (pcOf c) n, true) else atL n t).2.1 = y) ↔ _
  by_cases hn : c.i ≤ n ∧ n < c.o
  ·rw [if_pos hn]
   constructor
   ·rintro ⟨_, h2, h3⟩
    exact .inl ⟨hn.1, hn.2, h2, h3.symm⟩
   rintro (⟨h1, h2, h3, h4⟩ | h5)
   ·exact ⟨rfl, h3, h4.symm⟩
   obtain ⟨c', hc', k1, k2, _⟩ := ih.1 h5
   have := h.2.1 c' hc'
   omega
  rw [if_neg hn]
  exact ⟨fun h => .inr h, fun h => h.elim (fun h => absurd ⟨h.1, h.2.1⟩ hn) id⟩
theorem join_one (u : Spn) : joinS [u] = if u.i < u.o then [u] else [] := by
 unfold joinS srtR
 simp only [List.foldl_cons, List.foldl_nil]
 split
 ·rename_i h
  unfold putS mrg
  simp [stp, h]
 rfl
theorem part_has {c : Ct} {s : Spn} (hc : CutG c) (hs : chkS [s] = 0) :
  (∀ n, ((partV c s).2 = true ∧ (partV c s).1.has n) ↔ (c.i ≤ n ∧ n < c.o ∧ s.has (ledP (pcOf c) n))) ∧ ((partV c s).2 = true → 0 ≤ (partV c s).1.i ∧ (partV c s).1.i < (partV c s).1.o ∧ (partV c s).1.o ≤ c.o) := by
 have e : partV c s = hdV (joinS (preL [pcOf c] s)) := by
  unfold partV preP
  rw [if_pos hc.chk, if_pos hs]
 have hm := pre_mem hc.chk s
 have e2 : preL [pcOf c] s = [⟨reaP (pcOf c) s.i, reaP (pcOf c) s.o⟩] := rfl
 have b1 := rea_bd hc.sgl s.i
 have b2 := rea_bd hc.sgl s.o
 rw [e, e2, join_one]
 rw [e2] at hm
 have hl : ∀ n, (∃ y, Led [pcOf c] n y ∧ s.i ≤ y ∧ y < s.o) ↔ (c.i ≤ n ∧ n < c.o ∧ s.has (ledP (pcOf c) n)) := fun n => by
  constructor
  ·rintro ⟨y, ⟨p, hp, h1, h2, rfl⟩, h3, h4⟩
   rcases List.mem_singleton.1 hp with rfl
   exact ⟨h1, h2, h3, h4⟩
  rintro ⟨h1, h2, h3, h4⟩
  exact ⟨_, ⟨pcOf c, List.mem_singleton.2 rfl, h1, h2, rfl⟩, h3, h4⟩
 generalize reaP (pcOf c) s.i = a at *
 generalize reaP (pcOf c) s.o = b at *
 have c0 := hc.i0
 simp only [pcOf] at b1 b2
 by_cases hab : a < b
 ·rw [if_pos (show (⟨a, b⟩ : Spn).i < (⟨a, b⟩ : Spn).o from hab)]
  refine ⟨fun n => ?_, fun _ => ⟨by show 0 ≤ a; omega, hab, by show b ≤ c.o; omega⟩⟩
  rw [← hl n, ← hm n]
  show (true = true ∧ (⟨a, b⟩ : Spn).has n) ↔ _
  constructor
  ·exact fun h => ⟨_, List.mem_singleton.2 rfl, h.2⟩
  rintro ⟨u, hu, h⟩
  rcases List.mem_singleton.1 hu with rfl
  exact ⟨rfl, h⟩
 rw [if_neg (show ¬ (⟨a, b⟩ : Spn).i < (⟨a, b⟩ : Spn).o from hab)]
 refine ⟨fun n => ?_, fun h => (by cases h)⟩
 rw [← hl n, ← hm n]
 constructor
 ·exact fun h => (by cases h.1)
 rintro ⟨u, hu, h⟩
 rcases List.mem_singleton.1 hu with rfl
 have h1 : a ≤ n := h.1
 have h2 : n < b := h.2
 omega
def qB (q : Nat) (p : Nat × Ev) : Bool := p.1 == q
def prtQ (q : Nat) (A : List (Nat × Ev)) : List (Nat × Ev) := A.filter (qB q)
theorem fold_at (q : Nat) : ∀ (A : List (Nat × Ev)) (F : List Ft) (f : Ft), F[q]? = some f →
  (A.foldl (fun F q => match F[q.1]? with | some f => F.set q.1 (f.add q.2.id) | none => F) F)[q]? = some ⟨f.reel, f.id, f.parts ++ (prtQ q A).map (fun p => p.2.id), f.lost⟩
 | [], F, f, h => by
  simp only [List.foldl_nil, prtQ, List.filter_nil, List.map_nil, List.append_nil]
  exact h
 | p :: t, F, f, h => by
  rw [List.foldl_cons]
  by_cases hp : p.1 = q
  ·have e : (match F[p.1]? with | some f => F.set p.1 (f.add p.2.id) | none => F) = F.set q (f.add p.2.id) := by
    rw [hp, h]
   rw [e, fold_at q t _ (f.add p.2.id) (by rw [List.getElem?_set_self (List.getElem?_eq_some_iff.1 h).1])]
   have e2 : prtQ q (p :: t) = p :: prtQ q t := by
    unfold prtQ
    rw [List.filter_cons_of_pos (by unfold qB; simpa using hp)]
   rw [e2]
   simp [Ft.add]
  have e2 : prtQ q (p :: t) = prtQ q t := by
   unfold prtQ
   rw [List.filter_cons_of_neg (by unfold qB; simpa using hp)]
  rw [e2]
  refine fold_at q t _ f ?_
  split
  ·rw [List.getElem?_set_ne hp]
   exact h
  exact h
theorem fatA_at {l : List Rd} {d : Lst} {A : List (Nat × Ev)} {q : Nat} {f : Ft} (h : (fat0 l d)[q]? = some f) : (fatA l d A)[q]? = some ⟨f.reel, f.id, f.parts ++ (prtQ q A).map (fun p => p.2.id), f.lost⟩ := fold_at q A _ f h
def Numd (A : List (Nat × Ev)) : Prop := ∀ (k : Nat) (p : Nat × Ev), A[k]? = some p → p.2.id = (k : Int) + 1
theorem accE_numd {c : Ct} {q : Nat} {A : List (Nat × Ev)} {x : Ev} (h : Numd A) : Numd (accE c q A x) := by
 unfold accE
 split
 ·intro k p hp
  by_cases hk : k < A.length
  ·rw [List.getElem?_append_left hk] at hp
   exact h k p hp
  rw [List.getElem?_append_right (by omega)] at hp
  have h1 := (List.getElem?_eq_some_iff.1 hp).1
  simp only [List.length_singleton] at h1
  obtain rfl : k = A.length := by omega
  rw [Nat.sub_self] at hp
  cases hp
  rfl
 exact h
theorem accL_numd {c : Ct} {s : Nat} : ∀ {E : List Ev} {j : Nat} {A : List (Nat × Ev)}, Numd A → Numd (accL c s j E A)
 | [], _, _, h => h
 | x :: t, j, A, h => accL_numd (E := t) (accE_numd h)
theorem accC_numd {l : List Rd} {d : Lst} {c : Ct} {A : List (Nat × Ev)} (h : Numd A) : Numd (accC l d c A) := by
 unfold accC
 split
 ·split
  ·exact h
  exact accL_numd h
 exact h
theorem accJ_numd {l : List Rd} {d : Lst} : ∀ {J : List Ct} {A : List (Nat × Ev)}, Numd A → Numd (accJ l d J A)
 | [], _, h => h
 | c :: t, A, h => accJ_numd (J := t) (accC_numd h)
theorem raw_numd (l : List Rd) (d : Lst) : Numd (rawP l d) := accJ_numd (fun k p hp => by simp at hp)
theorem fat0_dec {l : List Rd} {d : Lst} {q : Nat} {f : Ft} (h : (fat0 l d)[q]? = some f) : ∃ k x j e, l[k]? = some x ∧ x.doc.evs[j]? = some e ∧ q = staN l d k + j ∧ f = ⟨x.reel, e.id, [], lostV (evS e) (plyG d x.reel).1⟩ := by
 have key : ∀ n, (fatK l d n)[q]? = some f → ∃ k x j e, l[k]? = some x ∧ x.doc.evs[j]? = some e ∧ q = staN l d k + j ∧ f = ⟨x.reel, e.id, [], lostV (evS e) (plyG d x.reel).1⟩ := by
  intro n
  induction n with
  | zero => intro h; unfold fatK at h; simp at h
  | succ n ih =>
   intro h
   cases hx : l[n]? with
   | none =>
    refine ih ?_
    unfold fatK at *
    rw [List.take_add_one, hx] at h
    simpa using h
   | some x =>
    rw [fatK_step hx] at h
    by_cases hq : q < (fatK l d n).length
    ·rw [List.getElem?_append_left hq] at h
     exact ih h
    rw [List.getElem?_append_right (by omega)] at h
    unfold fatR at h
    rw [List.getElem?_map] at h
    cases he : x.doc.evs[q - (fatK l d n).length]? with
    | none => rw [he] at h; cases h
    | some e =>
     rw [he] at h
     cases h
     exact ⟨n, x, q - (fatK l d n).length, e, hx, he, by unfold staN; omega, rfl⟩
 refine key l.length ?_
 rw [fatK_all]
 exact h
theorem doc_at {l : List Rd} (hd : ∀ (i j : Nat) (x y : Rd), l[i]? = some x → l[j]? = some y → x.reel = y.reel → i = j) {k : Nat} {x : Rd} (hx : l[k]? = some x) : docL x.reel l = (x.doc, true) := by
 have key : ∀ (t : List Rd), (∀ y ∈ t, y.reel = x.reel → y = x) → x ∈ t → docL x.reel t = (x.doc, true) := by
  intro t
  induction t with
  | nil => intro _ h; cases h
  | cons y r ih =>
   intro h hm
   unfold docL
   by_cases he : y.reel = x.reel
   ·rw [if_pos he, h y (List.mem_cons_self ..) he]
   rw [if_neg he]
   rcases List.mem_cons.1 hm with rfl | hm
   ·exact absurd rfl he
   exact ih (fun z hz => h z (List.mem_cons_of_mem _ hz)) hm
 refine key l (fun y hy he => ?_) (List.mem_of_getElem? hx)
 obtain ⟨j, hj⟩ := List.getElem?_of_mem hy
 obtain rfl := hd j k y x hj hx he
 rw [hx] at hj
 cases hj
 rfl
theorem rst_len2 (top : Int) : ∀ (L : List Spn) (a : Int), (rstS top a L).length ≤ L.length + 1
 | [], a => by unfold rstS; simp
 | x :: t, a => by
  have ih := rst_len2 top t
  unfold rstS
  split
  ·have := ih x.o
   simp only [List.length_cons]
   omega
  have := ih x.o
  simp only [List.length_cons]
  omega
theorem com_one_len (s : Spn) (B : List Spn) : (comS [s] B).length ≤ B.length := by
 unfold comS
 rw [List.flatMap_cons, List.flatMap_nil, List.append_nil]
 exact Nat.le_trans (List.length_filter_le _ _) (by rw [List.length_map]; exact Nat.le_refl _)
def RawIn (A : List (Nat × Ev)) : Prop := ∀ p ∈ A, 0 ≤ p.2.i ∧ p.2.i < p.2.o ∧ p.2.o ≤ 5184000
theorem accE_in {c : Ct} {q : Nat} {A : List (Nat × Ev)} {x : Ev} (hc : CutG c) (hs : chkS [evS x] = 0) (h : RawIn A) : RawIn (accE c q A x) := by
 unfold accE
 split
 ·rename_i hp
  intro p hm
  rcases List.mem_append.1 hm with hm | hm
  ·exact h p hm
  rcases List.mem_singleton.1 hm with rfl
  obtain ⟨k1, k2, k3⟩ := (part_has hc hs).2 hp
  have := hc.o1
  exact ⟨k1, k2, Int.le_trans k3 this⟩
 exact h
theorem accL_in {c : Ct} {s : Nat} (hc : CutG c) : ∀ {E : List Ev} {j : Nat} {A : List (Nat × Ev)}, (∀ x ∈ E, chkS [evS x] = 0) → RawIn A → RawIn (accL c s j E A)
 | [], _, _, _, h => h
 | x :: t, j, A, hE, h => accL_in hc (E := t) (fun y hy => hE y (List.mem_cons_of_mem _ hy)) (accE_in hc (hE x (List.mem_cons_self ..)) h)
theorem accC_in {l : List Rd} {d : Lst} {c : Ct} {A : List (Nat × Ev)} (hc : CutG c) (hE : ∀ x ∈ l, ∀ e ∈ x.doc.evs, chkS [evS e] = 0) (h : RawIn A) : RawIn (accC l d c A) := by
 unfold accC
 split
 ·rename_i x hx
  split
  ·exact h
  exact accL_in hc (hE x (List.mem_of_getElem? hx)) h
 exact h
theorem accJ_in {l : List Rd} {d : Lst} (hE : ∀ x ∈ l, ∀ e ∈ x.doc.evs, chkS [evS e] = 0) : ∀ {J : List Ct} {A : List (Nat × Ev)}, (∀ c ∈ J, CutG c) → RawIn A → RawIn (accJ l d J A)
 | [], _, _, h => h
 | c :: t, A, hJ, h => accJ_in hE (J := t) (fun y hy => hJ y (List.mem_cons_of_mem _ hy)) (accC_in (hJ c (List.mem_cons_self ..)) hE h)
theorem ev_chk {l : List Rd} {d : Lst} (h : ConfOk l d) {x : Rd} (hx : x ∈ l) {e : Ev} (he : e ∈ x.doc.evs) : (0 ≤ e.i ∧ e.i < e.o ∧ e.o ≤ 5184000) ∧ chkS [evS e] = 0 := by
 obtain ⟨k, hk⟩ := List.getElem?_of_mem hx
 obtain ⟨_, hsp, _, _⟩ := evE_zero (dcE_ev (h.docs k x hk).2.2.1 e he)
 refine ⟨hsp, chkS_ok.2 ⟨by simp, ⟨hsp.2.1, fun t ht => (by cases ht), trivial⟩, fun s hs => ?_⟩⟩
 rcases List.mem_singleton.1 hs with rfl
 exact ⟨hsp.1, by show e.o ≤ 10378368000; omega⟩
theorem raw_in {l : List Rd} {d : Lst} (h : ConfOk l d) : RawIn (rawP l d) :=
 accJ_in (fun x hx e he => (ev_chk h hx he).2) (fun c hc => (jn_all (lst_ok h.lst).1).1.cut c hc) (fun p hp => by cases hp)
end Go.Proofs.YtmopjhbfobmklaaGreatDoor
