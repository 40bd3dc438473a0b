/-
  What a conformed document shows, in plain words: it is accepted, and at every record frame its events are those of the document that is played, at the source frame that is played. The conditions are the hypotheses.
-/
import Derived.Test.YtmopjhbfobmklaaGreatDoorMHe
set_option maxRecDepth 100000
set_option maxHeartbeats 40000000
namespace Go.Proofs.YtmopjhbfobmklaaGreatDoor
set_option linter.unusedVariables false
set_option linter.unusedSimpArgs false
def atB (f : Int) (x : Ev) : Bool := decide (x.i ≤ f) && decide (f < x.o)
theorem atB_iff {f : Int} {x : Ev} : atB f x = true ↔ x.i ≤ f ∧ f < x.o := by simp [atB]
def atE (f : Int) (E : List Ev) : List Ev := E.filter (atB f)
def lkE (x : Ev) : List UInt8 × List (List Rn) := (x.reg, x.rows)
def lkA (f : Int) (E : List Ev) : List (List UInt8 × List (List Rn)) := (atE f E).map lkE
theorem lkA_nil (f : Int) : lkA f [] = [] := rfl
theorem lkA_app (f : Int) (E F : List Ev) : lkA f (E ++ F) = lkA f E ++ lkA f F := by unfold lkA atE; rw [List.filter_append, List.map_append]
theorem lkA_one (f : Int) (x : Ev) : lkA f [x] = if x.i ≤ f ∧ f < x.o then [lkE x] else [] := by
 unfold lkA atE
 by_cases h : x.i ≤ f ∧ f < x.o
 ·rw [if_pos h, List.filter_cons_of_pos (atB_iff.2 h)]
  rfl
 rw [if_neg h, List.filter_cons_of_neg (fun e => h (atB_iff.1 e))]
 rfl
theorem evsA_app (A B : List (Nat × Ev)) : evsA (A ++ B) = evsA A ++ evsA B := by unfold evsA; rw [List.map_append]
def docE (l : List Rd) (nm : List UInt8) : List Ev := (docL nm l).1.evs
theorem docL_none {nm : List UInt8} : ∀ {l : List Rd}, (∀ x ∈ l, x.reel ≠ nm) → docL nm l = (dc0, false)
 | [], _ => rfl
 | x :: t, h => by
  unfold docL
  rw [if_neg (h x (List.mem_cons_self ..))]
  exact docL_none (fun y hy => h y (List.mem_cons_of_mem _ hy))
def cutA (l : List Rd) (f : Int) (c : Ct) : List (List UInt8 × List (List Rn)) := if c.i ≤ f ∧ f < c.o then lkA (ledP (pcOf c) f) (docE l c.reel) else []
theorem accE_lk {c : Ct} {q : Nat} {A : List (Nat × Ev)} {x : Ev} (hc : CutG c) (hs : chkS [evS x] = 0) (f : Int) : lkA f (evsA (accE c q A x)) = lkA f (evsA A) ++ (if c.i ≤ f ∧ f < c.o then lkA (ledP (pcOf c) f) [x] else []) := by
 obtain ⟨h1, h2⟩ := part_has hc hs
 have k := h1 f
 have e0 : lkA (ledP (pcOf c) f) [x] = if x.i ≤ ledP (pcOf c) f ∧ ledP (pcOf c) f < x.o then [lkE x] else [] := lkA_one _ _
 rw [e0]
 unfold accE
 by_cases hp : (partV c (evS x)).2 = true
 ·rw [if_pos hp, evsA_app, lkA_app]
  congr 1
  have e : evsA [(q, prtE c A.length x)] = [prtE c A.length x] := rfl
  rw [e, lkA_one]
  have e2 : lkE (prtE c A.length x) = lkE x := rfl
  rw [e2]
  by_cases hh : (partV c (evS x)).1.has f
  ·obtain ⟨a1, a2, a3⟩ := k.1 ⟨hp, hh⟩
   rw [if_pos (show (prtE c A.length x).i ≤ f ∧ f < (prtE c A.length x).o from hh), if_pos ⟨a1, a2⟩, if_pos (show x.i ≤ ledP (pcOf c) f ∧ ledP (pcOf c) f < x.o from a3)]
  rw [if_neg (show ¬ ((prtE c A.length x).i ≤ f ∧ f < (prtE c A.length x).o) from hh)]
  by_cases hf : c.i ≤ f ∧ f < c.o
  ·rw [if_pos hf, if_neg (show ¬ (x.i ≤ ledP (pcOf c) f ∧ ledP (pcOf c) f < x.o) from fun a3 => hh (k.2 ⟨hf.1, hf.2, a3⟩).2)]
  rw [if_neg hf]
 rw [if_neg hp]
 by_cases hf : c.i ≤ f ∧ f < c.o
 ·rw [if_pos hf, if_neg (show ¬ (x.i ≤ ledP (pcOf c) f ∧ ledP (pcOf c) f < x.o) from fun a3 => hp (k.2 ⟨hf.1, hf.2, a3⟩).1), List.append_nil]
 rw [if_neg hf, List.append_nil]
theorem accL_lk {c : Ct} {s : Nat} (hc : CutG c) (f : Int) : ∀ {E : List Ev} {j : Nat} {A : List (Nat × Ev)}, (∀ x ∈ E, chkS [evS x] = 0) → lkA f (evsA (accL c s j E A)) = lkA f (evsA A) ++ (if c.i ≤ f ∧ f < c.o then lkA (ledP (pcOf c) f) E else [])
 | [], j, A, _ => by
  show lkA f (evsA A) = lkA f (evsA A) ++ (if c.i ≤ f ∧ f < c.o then lkA (ledP (pcOf c) f) [] else [])
  rw [lkA_nil, ite_self, List.append_nil]
 | x :: t, j, A, hE => by
  show lkA f (evsA (accL c s (j + 1) t (accE c (s + j) A x))) = _
  rw [accL_lk hc f (E := t) (fun y hy => hE y (List.mem_cons_of_mem _ hy)), accE_lk hc (hE x (List.mem_cons_self ..)), show x :: t = [x] ++ t from rfl, lkA_app, List.append_assoc]
  congr 1
  split
  ·rfl
  rfl
theorem accC_lk {l : List Rd} {d : Lst} {c : Ct} {A : List (Nat × Ev)} (hd : ∀ (i j : Nat) (x y : Rd), l[i]? = some x → l[j]? = some y → x.reel = y.reel → i = j) (hE : ∀ x ∈ l, ∀ e ∈ x.doc.evs, chkS [evS e] = 0) (hc : CutG c) (f : Int) :
  lkA f (evsA (accC l d c A)) = lkA f (evsA A) ++ cutA l f c := by
 unfold cutA docE
 rcases fnd_in (nm := c.reel) (l := l) (k := 0) with ⟨h1, h2⟩ | ⟨m, y, h1, h2, h3⟩
 ·rw [accC_neg (by rw [h1]; decide), docL_none h2]
  show _ = _ ++ (if c.i ≤ f ∧ f < c.o then lkA _ [] else [])
  rw [lkA_nil]
  split <;> rw [List.append_nil]
 rw [Nat.zero_add] at h1
 rw [accC_at h1 h2, accL_lk hc f (fun e he => hE y (List.mem_of_getElem? h2) e he)]
 have := doc_at hd h2
 rw [h3] at this
 rw [this]
theorem accJ_lk {l : List Rd} {d : Lst} (hd : ∀ (i j : Nat) (x y : Rd), l[i]? = some x → l[j]? = some y → x.reel = y.reel → i = j) (hE : ∀ x ∈ l, ∀ e ∈ x.doc.evs, chkS [evS e] = 0) (f : Int) :
  ∀ {J : List Ct} {A : List (Nat × Ev)}, (∀ c ∈ J, CutG c) → lkA f (evsA (accJ l d J A)) = lkA f (evsA A) ++ J.flatMap (cutA l f)
 | [], A, _ => by
  show lkA f (evsA A) = _
  rw [List.flatMap_nil, List.append_nil]
 | c :: t, A, hJ => by
  show lkA f (evsA (accJ l d t (accC l d c A))) = _
  rw [accJ_lk hd hE f (J := t) (fun y hy => hJ y (List.mem_cons_of_mem _ hy)), accC_lk hd hE (hJ c (List.mem_cons_self ..)), List.flatMap_cons, List.append_assoc]
theorem atL_no : ∀ {l : List Ct} {f : Int}, (atL f l).2.2 = false → atL f l = ([], 0, false)
 | [], f, _ => rfl
 | c :: t, f, h => by
  unfold atL at *
  split at h
  ·cases h
  rename_i hn
  rw [if_neg hn]
  exact atL_no h
theorem cuts_lk {l : List Rd} {f : Int} : ∀ {J : List Ct}, Ord2 J → J.flatMap (cutA l f) = if (atL f J).2.2 = true then lkA (atL f J).2.1 (docE l (atL f J).1) else []
 | [], _ => rfl
 | c :: t, h => by
  rw [List.flatMap_cons]
  have e : atL f (c :: t) = if c.i ≤ f ∧ f < c.o then (c.reel, ledP (pcOf c) f, true) else atL f t := rfl
  rw [e]
  by_cases hn : c.i ≤ f ∧ f < c.o
  ·rw [if_pos hn]
   have e2 : t.flatMap (cutA l f) = [] := by
    rw [List.flatMap_eq_nil_iff]
    intro c' hc'
    unfold cutA
    have := h.2.1 c' hc'
    rw [if_neg (by omega)]
   have e3 : cutA l f c = lkA (ledP (pcOf c) f) (docE l c.reel) := by unfold cutA; rw [if_pos hn]
   rw [e2, e3, List.append_nil]
   rfl
  rw [if_neg hn]
  have e3 : cutA l f c = [] := by unfold cutA; rw [if_neg hn]
  rw [e3, List.nil_append]
  exact cuts_lk h.2.2
theorem atL_join {l : List Ct} (h : Ord2 l) (f : Int) : atL f (jnC l) = atL f l := by
 obtain ⟨jo, _, jl⟩ := jn_all h
 cases hb : (atL f l).2.2 with
 | true =>
  have k := (atL_led jo f (atL f l).1 (atL f l).2.1).2 ((jl f _ _).2 ((atL_led h f _ _).1 ⟨hb, rfl, rfl⟩))
  exact Prod.ext k.2.1 (Prod.ext k.2.2 (k.1.trans hb.symm))
 | false =>
  have k : (atL f (jnC l)).2.2 = false := by
   cases hb2 : (atL f (jnC l)).2.2 with
   | false => rfl
   | true =>
    have k := (atL_led h f _ _).2 ((jl f _ _).1 ((atL_led jo f _ _).1 ⟨hb2, rfl, rfl⟩))
    rw [hb] at k
    exact absurd k.1 (by decide)
  rw [atL_no hb, atL_no k]
theorem raw_lk {l : List Rd} {d : Lst} (h : ConfOk l d) (f : Int) : lkA f (evsA (rawP l d)) = if (atG d f).2.2 = true then lkA (atG d f).2.1 (docE l (atG d f).1) else [] := by
 have ho := (lst_ok h.lst).1
 have jo := (jn_all ho).1
 have e : atG d f = atL f d.cuts := by unfold atG; rw [if_pos h.lst]
 unfold rawP
 rw [accJ_lk (ord_dist h) (fun x hx e he => (ev_chk h hx he).2) f (fun c hc => jo.cut c hc), cuts_lk jo, atL_join ho, e]
 rfl
theorem rea_mono {p : Pc} (h : sglP p = 0) {u v : Int} (huv : u ≤ v) : reaP p u ≤ reaP p v := by
 have b1 := rea_bd h u
 have b2 := rea_bd h v
 by_cases hc : reaP p u ≤ reaP p v
 ·exact hc
 exfalso
 have h1 : p.i ≤ reaP p v := b2.1
 have h2 : reaP p v < p.o := by omega
 have k1 := (rea_le h (v := v) h1 h2).1 (Int.le_refl _)
 have k2 := (rea_le h (v := u) h1 h2).2 (by omega)
 exact hc k2
theorem part_val {c : Ct} {s : Spn} (hc : CutG c) (hs : chkS [s] = 0) (hp : (partV c s).2 = true) : (partV c s).1 = ⟨reaP (pcOf c) s.i, reaP (pcOf c) s.o⟩ := by
 have e : partV c s = hdV (joinS (preL [pcOf c] s)) := by
  unfold partV preP
  rw [if_pos hc.chk, if_pos hs]
 have e2 : preL [pcOf c] s = [⟨reaP (pcOf c) s.i, reaP (pcOf c) s.o⟩] := rfl
 rw [e, e2, join_one] at hp ⊢
 split at hp
 ·rename_i h
  rw [if_pos h]
  rfl
 cases hp
def Asc2 (A : List (Nat × Ev)) : Prop := A.Pairwise fun p q => p.2.i ≤ q.2.i
theorem asc_snoc {A : List (Nat × Ev)} {p : Nat × Ev} (h : Asc2 A) (hp : ∀ q ∈ A, q.2.i ≤ p.2.i) : Asc2 (A ++ [p]) := by
 unfold Asc2
 rw [List.pairwise_append]
 exact ⟨h, List.pairwise_singleton _ _, fun a ha b hb => by rcases List.mem_singleton.1 hb with rfl; exact hp a ha⟩
def AscE (E : List Ev) : Prop := E.Pairwise fun x y => x.i ≤ y.i
theorem accL_asc {c : Ct} {s : Nat} (hc : CutG c) : ∀ {E : List Ev} {j : Nat} {A : List (Nat × Ev)}, (∀ x ∈ E, chkS [evS x] = 0) → AscE E → Asc2 A → (∀ p ∈ A, ∀ x ∈ E, p.2.i ≤ reaP (pcOf c) x.i) → Asc2 (accL c s j E A)
 | [], _, _, _, _, h, _ => h
 | x :: t, j, A, hE, ha, h, hb => by
  have ha2 := List.pairwise_cons.1 ha
  refine accL_asc hc (E := t) (fun y hy => hE y (List.mem_cons_of_mem _ hy)) ha2.2 ?_ ?_
  ·unfold accE
   split
   ·rename_i hp
    refine asc_snoc h (fun q hq => ?_)
    have e : (prtE c A.length x).i = reaP (pcOf c) x.i := by
     show (partV c (evS x)).1.i = _
     rw [part_val hc (hE x (List.mem_cons_self ..)) hp]
     rfl
    show q.2.i ≤ (prtE c A.length x).i
    rw [e]
    exact hb q hq x (List.mem_cons_self ..)
   exact h
  intro p hp y hy
  have hxy := rea_mono hc.sgl (ha2.1 y hy)
  unfold accE at hp
  split at hp
  ·rename_i hq
   rcases List.mem_append.1 hp with hp | hp
   ·exact hb p hp y (List.mem_cons_of_mem _ hy)
   rcases List.mem_singleton.1 hp with rfl
   have e : (prtE c A.length x).i = reaP (pcOf c) x.i := by
    show (partV c (evS x)).1.i = _
    rw [part_val hc (hE x (List.mem_cons_self ..)) hq]
    rfl
   show (prtE c A.length x).i ≤ _
   rw [e]
   exact hxy
  exact hb p hp y (List.mem_cons_of_mem _ hy)
theorem accL_low {c : Ct} {s : Nat} (hc : CutG c) {b : Int} (hb : c.o ≤ b) : ∀ {E : List Ev} {j : Nat} {A : List (Nat × Ev)}, (∀ x ∈ E, chkS [evS x] = 0) → (∀ p ∈ A, p.2.i ≤ b) → ∀ p ∈ accL c s j E A, p.2.i ≤ b
 | [], _, _, _, h => h
 | x :: t, j, A, hE, h => by
  refine accL_low hc hb (E := t) (fun y hy => hE y (List.mem_cons_of_mem _ hy)) ?_
  unfold accE
  split
  ·rename_i hp
   intro p hm
   rcases List.mem_append.1 hm with hm | hm
   ·exact h p hm
   rcases List.mem_singleton.1 hm with rfl
   obtain ⟨k1, k2, k3⟩ := (part_has hc (hE x (List.mem_cons_self ..))).2 hp
   show (partV c (evS x)).1.i ≤ b
   omega
  exact h
theorem accJ_asc {l : List Rd} {d : Lst} (hE : ∀ x ∈ l, (∀ e ∈ x.doc.evs, chkS [evS e] = 0) ∧ AscE x.doc.evs) : ∀ {J : List Ct} {A : List (Nat × Ev)}, Ord2 J → Asc2 A → (∀ p ∈ A, ∀ c ∈ J, p.2.i ≤ c.i) → Asc2 (accJ l d J A)
 | [], _, _, h, _ => h
 | c :: t, A, hJ, h, hb => by
  have hc := hJ.1
  have hlow : ∀ p ∈ A, p.2.i ≤ c.i := fun p hp => hb p hp c (List.mem_cons_self ..)
  have key : Asc2 (accC l d c A) ∧ ∀ p ∈ accC l d c A, p.2.i ≤ c.o := by
   have hio := hc.io
   unfold accC
   split
   ·rename_i x hx
    split
    ·exact ⟨h, fun p hp => by have := hlow p hp; omega⟩
    obtain ⟨h1, h2⟩ := hE x (List.mem_of_getElem? hx)
    refine ⟨accL_asc hc h1 h2 h (fun p hp y hy => ?_), accL_low hc (Int.le_refl _) h1 (fun p hp => by have := hlow p hp; omega)⟩
    have := hlow p hp
    have := (rea_bd hc.sgl y.i).1
    have e : (pcOf c).i = c.i := rfl
    omega
   exact ⟨h, fun p hp => by have := hlow p hp; omega⟩
  refine accJ_asc hE (J := t) hJ.2.2 key.1 (fun p hp c' hc' => ?_)
  have := key.2 p hp
  have := hJ.2.1 c' hc'
  omega
def prB (d : Dc) (k : Nat) (x : Ev) : Bool := match prv d.evs k with | some y => !lsB y x | none => false
theorem evN_eq (d : Dc) (k : Nat) (x : Ev) : evN d k x = if evE x d.regs ≠ 0 then evE x d.regs else if d.last < x.id then 2 else if prB d k x = true then 8 else if (mpF d.evs k x.id).isSome = true then 7 else 0 := rfl
theorem prB_some {d : Dc} {k : Nat} {x y : Ev} (h : prv d.evs k = some y) : prB d k x = !lsB y x := by unfold prB; rw [h]
theorem ev_less {dc : Dc} (h : dcE dc = 0) (j : Nat) (x y : Ev) (hx : dc.evs[j]? = some x) (hy : dc.evs[j + 1]? = some y) : lsB x y = true := by
 have e := evL_ok (dcE_evl h).2 (j + 1) y hy
 rw [Nat.zero_add, evN_eq] at e
 have ep : prv dc.evs (j + 1) = some x := by
  unfold prv
  rw [if_neg (by omega)]
  exact hx
 by_cases h0 : evE y dc.regs = 0
 ·rw [if_neg (by simpa using h0)] at e
  by_cases h1 : dc.last < y.id
  ·rw [if_pos h1] at e
   exact absurd e (by decide)
  rw [if_neg h1, prB_some ep] at e
  cases hb : lsB x y with
  | true => rfl
  | false =>
   rw [hb, Bool.not_false, if_pos rfl] at e
   exact absurd e (by decide)
 rw [if_pos h0] at e
 exact absurd e h0
theorem ascE_of : ∀ {E : List Ev}, (∀ (j : Nat) (x y : Ev), E[j]? = some x → E[j + 1]? = some y → x.i ≤ y.i) → AscE E
 | [], _ => List.Pairwise.nil
 | x :: t, h => by
  have ih : AscE t := ascE_of (fun j a b ha hb => h (j + 1) a b (by simpa using ha) (by simpa using hb))
  refine List.pairwise_cons.2 ⟨?_, ih⟩
  cases t with
  | nil => intro y hy; cases hy
  | cons z r =>
   have hz := h 0 x z rfl rfl
   intro y hy
   rcases List.mem_cons.1 hy with rfl | hy
   ·exact hz
   have := (List.pairwise_cons.1 ih).1 y hy
   omega
theorem evs_asc {dc : Dc} (h : dcE dc = 0) : AscE dc.evs := ascE_of (fun j x y hx hy => by
 rcases (lsB_iff x y).1 (ev_less h j x y hx hy) with h1 | h1 <;> omega)
theorem raw_asc {l : List Rd} {d : Lst} (h : ConfOk l d) : Asc2 (rawP l d) :=
 accJ_asc (fun x hx => ⟨fun e he => (ev_chk h hx he).2, by
  obtain ⟨k, hk⟩ := List.getElem?_of_mem hx
  exact evs_asc (h.docs k x hk).2.2.1⟩) (jn_all (lst_ok h.lst).1).1 List.Pairwise.nil (fun p hp => by cases hp)
def FromD (l : List Rd) (A : List (Nat × Ev)) : Prop := ∀ p ∈ A, ∃ x ∈ l, ∃ e ∈ x.doc.evs, p.2.reg = e.reg ∧ p.2.kind = e.kind ∧ p.2.spk = e.spk ∧ p.2.rows = e.rows
theorem accL_from {l : List Rd} {c : Ct} {s : Nat} {x : Rd} (hx : x ∈ l) : ∀ {E : List Ev} {j : Nat} {A : List (Nat × Ev)}, (∀ e ∈ E, e ∈ x.doc.evs) → FromD l A → FromD l (accL c s j E A)
 | [], _, _, _, h => h
 | e :: t, j, A, hE, h => by
  refine accL_from hx (E := t) (fun y hy => hE y (List.mem_cons_of_mem _ hy)) ?_
  unfold accE
  split
  ·intro p hp
   rcases List.mem_append.1 hp with hp | hp
   ·exact h p hp
   rcases List.mem_singleton.1 hp with rfl
   exact ⟨x, hx, e, hE e (List.mem_cons_self ..), rfl, rfl, rfl, rfl⟩
  exact h
theorem accJ_from {l : List Rd} {d : Lst} : ∀ {J : List Ct} {A : List (Nat × Ev)}, FromD l A → FromD l (accJ l d J A)
 | [], _, h => h
 | c :: t, A, h => by
  refine accJ_from (J := t) ?_
  unfold accC
  split
  ·rename_i x hx
   split
   ·exact h
   exact accL_from (List.mem_of_getElem? hx) (fun e he => he) h
  exact h
theorem raw_from (l : List Rd) (d : Lst) : FromD l (rawP l d) := accJ_from (fun p hp => by cases hp)
theorem addR_mem {o : List Rg} {g x : Rg} : x ∈ addR o g ↔ x ∈ o ∨ x = g := by
 unfold addR
 split
 ·rename_i h
  refine ⟨.inl, fun h2 => h2.elim id fun e => ?_⟩
  obtain ⟨y, hy, hb⟩ := List.any_eq_true.1 h
  rw [e, eqB_iff.1 hb]
  exact hy
 simp
theorem addRs_mem {x : Rg} : ∀ {L o : List Rg}, x ∈ L.foldl addR o ↔ x ∈ o ∨ x ∈ L
 | [], o => by simp
 | g :: t, o => by
  rw [List.foldl_cons, addRs_mem (L := t), addR_mem, List.mem_cons, or_assoc]
theorem regsL_mem {x : Rg} {l : List Rd} : x ∈ regsL l ↔ ∃ d ∈ l, x ∈ d.doc.regs := by
 unfold regsL
 have key : ∀ (l : List Rd) (o : List Rg), x ∈ l.foldl (fun o d => d.doc.regs.foldl addR o) o ↔ x ∈ o ∨ ∃ d ∈ l, x ∈ d.doc.regs := by
  intro l
  induction l with
  | nil => intro o; simp
  | cons d t ih =>
   intro o
   rw [List.foldl_cons, ih, addRs_mem, or_assoc]
   constructor
   ·rintro (h | h | ⟨y, hy, h⟩)
    ·exact .inl h
    ·exact .inr ⟨d, List.mem_cons_self .., h⟩
    exact .inr ⟨y, List.mem_cons_of_mem _ hy, h⟩
   rintro (h | ⟨y, hy, h⟩)
   ·exact .inl h
   rcases List.mem_cons.1 hy with rfl | hy
   ·exact .inr (.inl h)
   exact .inr (.inr ⟨y, hy, h⟩)
 rw [key]
 simp
theorem findL_mem {nm : List UInt8} : ∀ {l : List Rg}, (findL nm l).2 = true → (findL nm l).1 ∈ l ∧ (findL nm l).1.name = nm
 | [], h => by cases h
 | x :: t, h => by
  unfold findL at *
  by_cases hx : x.name = nm
  ·rw [if_pos hx]
   exact ⟨List.mem_cons_self .., hx⟩
  rw [if_neg hx] at h ⊢
  obtain ⟨h1, h2⟩ := findL_mem h
  exact ⟨List.mem_cons_of_mem _ h1, h2⟩
theorem findL_of : ∀ {l : List Rg} {g : Rg}, l.Pairwise (fun a b => a.name ≠ b.name) → g ∈ l → findL g.name l = (g, true)
 | [], _, _, h => by cases h
 | x :: t, g, hd, h => by
  obtain ⟨h1, h2⟩ := List.pairwise_cons.1 hd
  unfold findL
  rcases List.mem_cons.1 h with rfl | h
  ·rw [if_pos rfl]
  rw [if_neg (h1 g h)]
  exact findL_of h2 h
theorem find_all {l : List Rd} {d : Lst} (h : ConfOk l d) {ys : List Rg} (hp : ys.Perm (regsL l)) {x : Rd} (hx : x ∈ l) {nm : List UInt8} (hf : (findV x.doc.regs nm).2 = true) : findV ys nm = findV x.doc.regs nm := by
 unfold findV at *
 by_cases hn : nm = []
 ·rw [if_pos hn, if_pos hn]
 rw [if_neg hn] at hf ⊢
 rw [if_neg hn]
 obtain ⟨h1, h2⟩ := findL_mem hf
 have h3 : (findL nm x.doc.regs).1 ∈ ys := hp.mem_iff.2 (regsL_mem.2 ⟨x, hx, h1⟩)
 have h4 := findL_of ((perm_dist hp).2 h.regs) h3
 rw [h2] at h4
 rw [h4]
 exact Prod.ext rfl hf.symm
theorem evE_find {x : Ev} {regs : List Rg} (h : evE x regs = 0) : (findV regs x.reg).2 = true := by
 unfold evE at h
 split at h
 ·exact absurd h (by decide)
 split at h
 ·exact absurd h (by decide)
 rename_i h2
 cases hb : (findV regs x.reg).2 with
 | true => rfl
 | false => exact absurd hb h2
theorem rlE_all : ∀ {l : List Rg} {p : Option Rg}, rlE p l = 0 → ∀ x ∈ l, rgE x = 0
 | [], _, _, x, hx => by cases hx
 | y :: t, p, h, x, hx => by
  have e : rlE p (y :: t) = if rgN p y = 0 then rlE (some y) t else rgN p y := by cases p <;> rfl
  rw [e] at h
  by_cases h0 : rgN p y = 0
  ·rw [if_pos h0] at h
   rcases List.mem_cons.1 hx with rfl | hx
   ·unfold rgN at h0
    by_cases h1 : rgE x = 0
    ·exact h1
    rw [if_pos h1] at h0
    exact absurd h0 h1
   exact rlE_all h x hx
  rw [if_neg h0] at h
  exact absurd h h0
theorem rlE_zero : ∀ {l : List Rg} {p : Option Rg}, (∀ x ∈ l, rgE x = 0) → SrtR l → l.Pairwise (fun a b => a.name ≠ b.name) → (∀ y, p = some y → ∀ x ∈ l, x.name ≠ y.name ∧ 0 ≤ cmpB x.name y.name) → rlE p l = 0
 | [], p, _, _, _, _ => by cases p <;> rfl
 | x :: t, p, h1, h2, h3, h4 => by
  have e : rlE p (x :: t) = if rgN p x = 0 then rlE (some x) t else rgN p x := by cases p <;> rfl
  have hx := h1 x (List.mem_cons_self ..)
  have e0 : rgN p x = 0 := by
   unfold rgN
   rw [if_neg (by simpa using hx)]
   cases p with
   | none => rfl
   | some y =>
    obtain ⟨k1, k2⟩ := h4 y rfl x (List.mem_cons_self ..)
    simp only
    rw [if_neg k1, less_cmp, if_neg (by simp; exact k2)]
  rw [e, if_pos e0]
  obtain ⟨d1, d2⟩ := List.pairwise_cons.1 h3
  exact rlE_zero (fun y hy => h1 y (List.mem_cons_of_mem _ hy)) h2.2 d2 (fun y hy z hz => by
   cases hy
   exact ⟨fun e => d1 z hz e.symm, h2.1 z hz⟩)
theorem dcE_rgs {d : Dc} (h : dcE d = 0) : ∀ x ∈ d.regs, rgE x = 0 := by
 have k : rgsE d.regs = 0 := by
  unfold dcE at h
  split at h
  ·rename_i h1; exact absurd h h1
  split at h
  ·rename_i h1; exact absurd h h1
  rename_i h1
  exact Decidable.not_not.1 h1
 unfold rgsE at k
 split at k
 ·exact absurd k (by decide)
 exact rlE_all k
theorem dcE_hd {d : Dc} (h : dcE d = 0) : hdE d = 0 := by
 unfold dcE at h
 split at h
 ·rename_i h1; exact absurd h h1
 rename_i h1; exact Decidable.not_not.1 h1
theorem hdE_lang {d : Dc} (h : hdE d = 0) : d.lang = [] ∨ nmB d.lang = true := by
 unfold hdE at h
 split at h
 ·exact absurd h (by decide)
 split at h
 ·exact absurd h (by decide)
 split at h
 ·exact absurd h (by decide)
 rename_i h1
 by_cases h2 : d.lang = []
 ·exact .inl h2
 cases hb : nmB d.lang with
 | true => exact .inr rfl
 | false => exact absurd ⟨h2, hb⟩ h1
theorem langL_ok : ∀ {l : List Rd} {s : List UInt8} {k : Nat}, (s = [] ∨ nmB s = true) → (∀ x ∈ l, x.doc.lang = [] ∨ nmB x.doc.lang = true) → langL s k l = [] ∨ nmB (langL s k l) = true
 | [], s, k, hs, _ => hs
 | x :: t, s, k, hs, h => by
  unfold langL
  split
  ·exact .inl rfl
  exact langL_ok (h x (List.mem_cons_self ..)) (fun y hy => h y (List.mem_cons_of_mem _ hy))
theorem mpF_none {E : List Ev} : ∀ {n : Nat} {id : Int}, (∀ (i : Nat) (x : Ev), i < n → E[i]? = some x → x.id ≠ id) → mpF E n id = none
 | 0, id, _ => rfl
 | n + 1, id, h => by
  cases hy : E[n]? with
  | none =>
   show (match E[n]? with | some x => setG (mpF E n) x.id n | none => mpF E n) id = none
   rw [hy]
   exact mpF_none (fun i x hi hx => h i x (by omega) hx)
  | some y =>
   rw [mpF_succ hy]
   unfold setG
   rw [if_neg (fun e => h n y (by omega) hy e.symm)]
   exact mpF_none (fun i x hi hx => h i x (by omega) hx)
theorem evL_zero {d : Dc} : ∀ {t : List Ev} {k : Nat}, (∀ (j : Nat) (x : Ev), t[j]? = some x → evN d (k + j) x = 0) → evL d k t = 0
 | [], _, _ => rfl
 | x :: t, k, h => by
  have h0 : evN d k x = 0 := h 0 x rfl
  unfold evL
  rw [if_pos h0]
  exact evL_zero (fun j y hy => by rw [show k + 1 + j = k + (j + 1) by omega]; exact h (j + 1) y hy)
theorem evE_move {x y : Ev} {R S : List Rg} (h : evE x R = 0) (h1 : y.reg = x.reg) (h2 : y.kind = x.kind) (h3 : y.spk = x.spk) (h4 : y.rows = x.rows) (h5 : findV S x.reg = findV R x.reg) (h6 : 1 ≤ y.id ∧ y.id ≤ 1099511627776) (h7 : 0 ≤ y.i ∧ y.i < y.o ∧ y.o ≤ 5184000) : evE y S = 0 := by
 unfold evE at h ⊢
 rw [h1, h2, h3, h4, h5]
 have e : spB y.i y.o = true := by unfold spB; simp; omega
 rw [if_neg (by rw [e]; simp; omega)]
 split at h
 ·exact absurd h (by decide)
 exact h
theorem conf_good {l : List Rd} {d : Lst} (h : ConfOk l d) (hn : (rawP l d).length ≤ 400) {ys : List Rg} (hp : ys.Perm (regsL l)) (hs : SrtR ys) : dcE ⟨d.title, langL [] 0 l, d.rate, d.drop, (rawP l d).length, ys, evsA (rawP l d), []⟩ = 0 := by
 have hlst := h.lst
 have k1 : hdE ⟨d.title, langL [] 0 l, d.rate, d.drop, (rawP l d).length, ys, evsA (rawP l d), []⟩ = 0 := by
  have hl := langL_ok (l := l) (s := []) (k := 0) (.inl rfl) (fun x hx => by
   obtain ⟨k, hk⟩ := List.getElem?_of_mem hx
   exact hdE_lang (dcE_hd (h.docs k x hk).2.2.1))
  unfold lstE at hlst
  unfold hdE
  simp only
  split at hlst
  ·exact absurd hlst (by decide)
  rename_i a1
  rw [if_neg a1]
  split at hlst
  ·exact absurd hlst (by decide)
  rename_i a2
  rw [if_neg a2]
  split at hlst
  ·exact absurd hlst (by decide)
  rename_i a3
  rw [if_neg (by
   rintro ⟨b1, b2⟩
   rcases hl with hl | hl
   ·exact b1 hl
   rw [hl] at b2; cases b2), if_neg a3, if_neg (by omega)]
 have k2 : rgsE ys = 0 := by
  unfold rgsE
  rw [if_neg (by have := hp.length_eq; have := h.rlen; omega)]
  refine rlE_zero (fun x hx => ?_) hs ((perm_dist hp).2 h.regs) (fun y hy => by cases hy)
  obtain ⟨r, hr, hx2⟩ := regsL_mem.1 (hp.mem_iff.1 hx)
  obtain ⟨k, hk⟩ := List.getElem?_of_mem hr
  exact dcE_rgs (h.docs k r hk).2.2.1 x hx2
 have k3 : evL ⟨d.title, langL [] 0 l, d.rate, d.drop, (rawP l d).length, ys, evsA (rawP l d), []⟩ 0 (evsA (rawP l d)) = 0 := by
  refine evL_zero (fun j x hx => ?_)
  rw [Nat.zero_add]
  have N := raw_numd l d
  obtain ⟨p, hpj, rfl⟩ : ∃ p, (rawP l d)[j]? = some p ∧ p.2 = x := by
   unfold evsA at hx
   rw [List.getElem?_map] at hx
   cases hz : (rawP l d)[j]? with
   | none => rw [hz] at hx; cases hx
   | some z => rw [hz] at hx; cases hx; exact ⟨z, rfl, rfl⟩
  have hid := N j p hpj
  have hj : j < (rawP l d).length := (List.getElem?_eq_some_iff.1 hpj).1
  obtain ⟨r, hr, e, he, e1, e2, e3, e4⟩ := raw_from l d p (List.mem_of_getElem? hpj)
  obtain ⟨k, hk⟩ := List.getElem?_of_mem hr
  have hev := dcE_ev (h.docs k r hk).2.2.1 e he
  have k4 : evE p.2 ys = 0 := evE_move hev e1 e2 e3 e4 (find_all h hp hr (evE_find hev)) (by omega) (raw_in h p (List.mem_of_getElem? hpj))
  have k5 : prB ⟨d.title, langL [] 0 l, d.rate, d.drop, (rawP l d).length, ys, evsA (rawP l d), []⟩ j p.2 = false := by
   cases j with
   | zero => rfl
   | succ j =>
    have ep : prv (evsA (rawP l d)) (j + 1) = (evsA (rawP l d))[j]? := by unfold prv; rw [if_neg (by omega)]; rfl
    obtain ⟨z, hz⟩ : ∃ z, (rawP l d)[j]? = some z := ⟨_, List.getElem?_eq_getElem (by omega)⟩
    have ez : (evsA (rawP l d))[j]? = some z.2 := by unfold evsA; rw [List.getElem?_map, hz]; rfl
    rw [prB_some (y := z.2) (ep.trans ez)]
    have hle : z.2.i ≤ p.2.i := by
     have := raw_asc h
     unfold Asc2 at this
     rw [List.pairwise_iff_getElem] at this
     have := this j (j + 1) (by omega) hj (by omega)
     rw [(List.getElem?_eq_some_iff.1 hz).2, (List.getElem?_eq_some_iff.1 hpj).2] at this
     exact this
    have hzi := N j z hz
    have : lsB z.2 p.2 = true := by
     rw [lsB_iff]
     by_cases hlt : z.2.i < p.2.i
     ·exact .inl hlt
     exact .inr ⟨by omega, by omega⟩
    rw [this]
    rfl
  rw [evN_eq, k5]
  simp only
  rw [if_neg (by simpa using k4), if_neg (by omega), if_neg (by decide), mpF_none (fun i y hi hy => ?_)]
  ·rfl
  unfold evsA at hy
  rw [List.getElem?_map] at hy
  cases hz : (rawP l d)[i]? with
  | none => rw [hz] at hy; cases hy
  | some z =>
   rw [hz] at hy
   cases hy
   have hz2 : z.2.id = (i : Int) + 1 := N i z hz
   show z.2.id ≠ p.2.id
   omega
 unfold dcE
 rw [if_neg (by simpa using k1)]
 simp only
 rw [if_neg (by simpa using k2), if_neg (by rw [evsA_len]; omega), if_neg (by simpa using k3)]
 rfl
end Go.Proofs.YtmopjhbfobmklaaGreatDoor
