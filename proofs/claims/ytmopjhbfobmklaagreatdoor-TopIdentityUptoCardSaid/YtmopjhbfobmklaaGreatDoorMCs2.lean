/-
  The law in plain words. The conditions of the contracts are their hypotheses.
-/
import Derived.Test.YtmopjhbfobmklaaGreatDoorMP6
import Derived.Test.YtmopjhbfobmklaaGreatDoorMCq
import Derived.Test.YtmopjhbfobmklaaGreatDoorMCr
set_option maxRecDepth 100000
set_option maxHeartbeats 40000000
namespace Go.Proofs.YtmopjhbfobmklaaGreatDoor
set_option linter.unusedVariables false
set_option linter.unusedSimpArgs false
def nmA : List UInt8 := [65]
def idD (d : Dc) : List Rd := [⟨nmA, d⟩]
theorem rlE_asc : ∀ {l : List Rg} {p : Option Rg}, rlE p l = 0 → (∀ y, p = some y → ∀ x ∈ l, cmpB y.name x.name < 0) ∧ l.Pairwise (fun a b => cmpB a.name b.name < 0)
 | [], p, _ => ⟨fun y _ x hx => (by cases hx), List.Pairwise.nil⟩
 | x :: t, p, h => by
  have e : rlE p (x :: t) = if rgN p x = 0 then rlE (some x) t else rgN p x := by cases p <;> rfl
  rw [e] at h
  by_cases h0 : rgN p x = 0
  ·rw [if_pos h0] at h
   obtain ⟨i1, i2⟩ := rlE_asc h
   have h1 : ∀ y, p = some y → cmpB y.name x.name < 0 := fun y hy => by
    subst hy
    unfold rgN at h0
    by_cases k0 : rgE x = 0
    ·rw [if_neg (by simpa using k0)] at h0
     simp only at h0
     by_cases k1 : x.name = y.name
     ·rw [if_pos k1] at h0
      exact absurd h0 (by decide)
     rw [if_neg k1, less_cmp] at h0
     by_cases k2 : cmpB x.name y.name < 0
     ·rw [if_pos (by simpa using k2)] at h0
      exact absurd h0 (by decide)
     have k3 := cmp_anti y.name x.name
     have k4 : cmpB y.name x.name ≠ 0 := fun e => k1 (cmp_zero e).symm
     omega
    rw [if_pos k0] at h0
    exact absurd h0 k0
   refine ⟨fun y hy z hz => ?_, List.pairwise_cons.2 ⟨fun z hz => i1 x rfl z hz, i2⟩⟩
   rcases List.mem_cons.1 hz with rfl | hz
   ·exact h1 y hy
   exact cmp_trans (h1 y hy) (i1 x rfl z hz)
  rw [if_neg h0] at h
  exact absurd h h0
theorem dcE_dist {d : Dc} (h : dcE d = 0) : d.regs.Pairwise (fun a b => a.name ≠ b.name) ∧ d.regs.length ≤ 16 := by
 have k : rgsE d.regs = 0 := by
  unfold dcE at h
  split at h
  ·rename_i h1; exact absurd h h1
  split at h
  ·rename_i h1; exact absurd h h1
  rename_i h1
  exact Decidable.not_not.1 h1
 refine ⟨?_, rgsE_len k⟩
 unfold rgsE at k
 split at k
 ·exact absurd k (by decide)
 exact (rlE_asc k).2.imp (fun {a b} hab e => by rw [e, cmp_self] at hab; omega)
theorem addRs_all : ∀ {L o : List Rg}, (o ++ L).Pairwise (fun a b => a.name ≠ b.name) → L.foldl addR o = o ++ L
 | [], o, _ => by simp
 | x :: t, o, h => by
  rw [List.foldl_cons]
  have e : addR o x = o ++ [x] := by
   unfold addR
   rw [if_neg]
   intro hb
   obtain ⟨y, hy, he⟩ := List.any_eq_true.1 hb
   have e1 := eqB_iff.1 he
   have := (List.pairwise_append.1 h).2.2 y hy x (List.mem_cons_self ..)
   exact this (by rw [e1])
  rw [e, addRs_all (L := t) (by rw [List.append_assoc]; exact h), List.append_assoc]
  rfl
theorem regsL_one {d : Dc} (h : dcE d = 0) : regsL (idD d) = d.regs := by
 unfold regsL idD
 simp only [List.foldl_cons, List.foldl_nil]
 rw [addRs_all (by simpa using (dcE_dist h).1)]
 rfl
theorem id_ok {d : Dc} {n : Int} (h : dcE d = 0) (hl : lstE (idL d.rate d.drop nmA n) = 0) : ConfOk (idD d) (idL d.rate d.drop nmA n) := by
 refine ⟨hl, by simp [idD], fun k x hx => ?_, ?_, ?_⟩
 ·cases k with
  | zero =>
   cases hx
   exact ⟨show nmB nmA = true by decide, rfl, h, rfl, rfl⟩
  | succ k => simp [idD] at hx
 ·rw [regsL_one h]
  exact (dcE_dist h).1
 rw [regsL_one h]
 exact (dcE_dist h).2
abbrev idC (n : Int) : Ct := ⟨1, nmA, 0, 0, n, 1, 1⟩
theorem id_cut {d : Dc} {n : Int} (hl : lstE (idL d.rate d.drop nmA n) = 0) : CutG (idC n) := (lst_ok hl).1.cut (idC n) (by simp [idL])
theorem id_led (n f : Int) : ledP (pcOf (idC n)) f = f := by
 rw [led_one1 rfl rfl]
 show 0 + (f - 0) = f
 omega
theorem id_part {n : Int} (hc : CutG (idC n)) {x : Ev} (h0 : 0 ≤ x.i) (h1 : x.i < x.o) (h2 : x.o ≤ n) (hs : chkS [evS x] = 0) : partV (idC n) (evS x) = (evS x, true) := by
 obtain ⟨k1, k2⟩ := part_has hc hs
 have e : ∀ f, ((partV (idC n) (evS x)).2 = true ∧ (partV (idC n) (evS x)).1.has f) ↔ (x.i ≤ f ∧ f < x.o) := fun f => by
  rw [k1 f, id_led]
  constructor
  ·exact fun h => h.2.2
  exact fun h => ⟨by show 0 ≤ f; omega, by show f < n; omega, h⟩
 have hp : (partV (idC n) (evS x)).2 = true := ((e x.i).2 ⟨Int.le_refl _, h1⟩).1
 obtain ⟨b1, b2, b3⟩ := k2 hp
 have e2 : ∀ f, ((partV (idC n) (evS x)).1.i ≤ f ∧ f < (partV (idC n) (evS x)).1.o) ↔ (x.i ≤ f ∧ f < x.o) := fun f => ⟨fun h => (e f).1 ⟨hp, h⟩, fun h => ((e f).2 h).2⟩
 have a1 := (e2 x.i).2 ⟨Int.le_refl _, h1⟩
 have a2 := (e2 (x.o - 1)).2 ⟨by omega, by omega⟩
 have a3 := (e2 (partV (idC n) (evS x)).1.i).1 ⟨Int.le_refl _, b2⟩
 have a4 := (e2 ((partV (idC n) (evS x)).1.o - 1)).1 ⟨by omega, by omega⟩
 refine Prod.ext ?_ hp
 have q1 : (partV (idC n) (evS x)).1.i = x.i := by omega
 have q2 : (partV (idC n) (evS x)).1.o = x.o := by omega
 cases hv : (partV (idC n) (evS x)).1 with
 | mk i o =>
  rw [hv] at q1 q2
  simp only at q1 q2
  rw [q1, q2]
  rfl
def renE (k : Nat) (x : Ev) : Ev := ⟨(k : Int) + 1, x.i, x.o, x.reg, x.kind, x.spk, x.rows⟩
def renL : Nat → List Ev → List (Nat × Ev)
 | _, [] => []
 | k, x :: t => (k, renE k x) :: renL (k + 1) t
theorem id_accL {n : Int} (hc : CutG (idC n)) : ∀ {E : List Ev} {j : Nat} {A : List (Nat × Ev)}, A.length = j → (∀ x ∈ E, (0 ≤ x.i ∧ x.i < x.o ∧ x.o ≤ n) ∧ chkS [evS x] = 0) → accL (idC n) 0 j E A = A ++ renL j E
 | [], j, A, _, _ => by
  show A = A ++ []
  rw [List.append_nil]
 | x :: t, j, A, hA, h => by
  obtain ⟨⟨h0, h1, h2⟩, h3⟩ := h x (List.mem_cons_self ..)
  have hp := id_part hc h0 h1 h2 h3
  show accL (idC n) 0 (j + 1) t (accE (idC n) (0 + j) A x) = _
  have e : accE (idC n) (0 + j) A x = A ++ [(j, renE j x)] := by
   unfold accE prtE
   rw [hp, if_pos rfl, hA, Nat.zero_add]
   rfl
  rw [e, id_accL hc (E := t) (by rw [List.length_append, hA]; rfl) (fun y hy => h y (List.mem_cons_of_mem _ hy)), List.append_assoc]
  rfl
theorem id_evs {d : Dc} {n : Int} (h : dcE d = 0) (hs : ∀ x ∈ d.evs, x.o ≤ n) : ∀ x ∈ d.evs, (0 ≤ x.i ∧ x.i < x.o ∧ x.o ≤ n) ∧ chkS [evS x] = 0 := fun x hx => by
 obtain ⟨_, hsp, _, _⟩ := evE_zero (dcE_ev h x hx)
 refine ⟨⟨hsp.1, hsp.2.1, hs x hx⟩, chkS_ok.2 ⟨by simp, ⟨hsp.2.1, fun t ht => (by cases ht), trivial⟩, fun s hs => ?_⟩⟩
 rcases List.mem_singleton.1 hs with rfl
 exact ⟨hsp.1, by show x.o ≤ 10378368000; omega⟩
theorem id_raw {d : Dc} {n : Int} (h : dcE d = 0) (hl : lstE (idL d.rate d.drop nmA n) = 0) (hs : ∀ x ∈ d.evs, x.o ≤ n) : rawP (idD d) (idL d.rate d.drop nmA n) = renL 0 d.evs := by
 have e1 : jnC (idL d.rate d.drop nmA n).cuts = [idC n] := rfl
 unfold rawP
 rw [e1]
 show accC (idD d) (idL d.rate d.drop nmA n) (idC n) [] = _
 have hf : fndD (idC n).reel 0 (idD d) = ((0 : Nat) : Int) := by
  unfold idD fndD
  rw [if_pos rfl]
 rw [accC_at hf (x := ⟨nmA, d⟩) rfl]
 have e2 : staN (idD d) (idL d.rate d.drop nmA n) 0 = 0 := rfl
 rw [e2]
 exact (id_accL (id_cut hl) (E := d.evs) (j := 0) (A := []) rfl (id_evs h hs)).trans (List.nil_append _)
theorem renL_len : ∀ (E : List Ev) (k : Nat), (renL k E).length = E.length
 | [], _ => rfl
 | x :: t, k => by
  show (renL (k + 1) t).length + 1 = t.length + 1
  rw [renL_len t]
theorem id_lk {d : Dc} {n : Int} (h : dcE d = 0) (hl : lstE (idL d.rate d.drop nmA n) = 0) {f : Int} (h0 : 0 ≤ f) (h1 : f < n) : lkA f (evsA (rawP (idD d) (idL d.rate d.drop nmA n))) = lkA f d.evs := by
 have e : atG (idL d.rate d.drop nmA n) f = (nmA, f, true) := by
  unfold atG
  rw [if_pos hl]
  show (if (0 : Int) ≤ f ∧ f < n then (nmA, ledP (pcOf (idC n)) f, true) else _) = _
  rw [if_pos ⟨h0, h1⟩, id_led]
 rw [raw_lk (id_ok h hl), e]
 rfl
theorem id_scr {d : Dc} {n : Int} (h : dcE d = 0) (hl : lstE (idL d.rate d.drop nmA n) = 0) {ys : List Rg} (hp : ys.Perm (regsL (idD d))) {f : Int} (h0 : 0 ≤ f) (h1 : f < n) : scrV ys (evsA (rawP (idD d) (idL d.rate d.drop nmA n))) f = scrV d.regs d.evs f := by
 rw [scr_lk, scr_lk, id_lk h hl h0 h1]
 congr 1
 refine fold_same (fun p hp2 => ?_)
 obtain ⟨e, he, rfl⟩ := lkA_mem hp2
 exact find_all (id_ok h hl) hp (x := ⟨nmA, d⟩) (by simp [idD]) (evE_find (dcE_ev h e he))
theorem id_spans {d : Dc} {n : Int} (h : dcE d = 0) (hl : lstE (idL d.rate d.drop nmA n) = 0) (hs : ∀ x ∈ d.evs, x.o ≤ n) : (evsA (rawP (idD d) (idL d.rate d.drop nmA n))).map evS = d.evs.map evS := by
 rw [id_raw h hl hs]
 have key : ∀ (E : List Ev) (k : Nat), (evsA (renL k E)).map evS = E.map evS := by
  intro E
  induction E with
  | nil => intro k; rfl
  | cons x t ih =>
   intro k
   show evS (renE k x) :: (evsA (renL (k + 1) t)).map evS = evS x :: t.map evS
   rw [ih]
   rfl
 exact key d.evs 0
theorem prtQ_ren : ∀ (E : List Ev) (k q : Nat), q < k → prtQ q (renL k E) = []
 | [], _, _, _ => rfl
 | x :: t, k, q, h => by
  unfold prtQ
  show ((k, renE k x) :: renL (k + 1) t).filter (qB q) = []
  rw [List.filter_cons_of_neg (by unfold qB; simp; omega)]
  exact prtQ_ren t (k + 1) q (by omega)
theorem prtQ_one : ∀ {E : List Ev} {k j : Nat} {x : Ev}, E[j]? = some x → prtQ (k + j) (renL k E) = [(k + j, renE (k + j) x)]
 | [], _, _, _, h => by simp at h
 | y :: t, k, 0, x, h => by
  cases h
  unfold prtQ
  show ((k, renE k y) :: renL (k + 1) t).filter (qB (k + 0)) = _
  rw [List.filter_cons_of_pos (by unfold qB; simp)]
  have := prtQ_ren t (k + 1) (k + 0) (by omega)
  unfold prtQ at this
  rw [this]
  rfl
 | y :: t, k, j + 1, x, h => by
  unfold prtQ
  show ((k, renE k y) :: renL (k + 1) t).filter (qB (k + (j + 1))) = _
  rw [List.filter_cons_of_neg (by unfold qB; simp)]
  have := prtQ_one (E := t) (k := k + 1) (j := j) h
  rw [show k + 1 + j = k + (j + 1) by omega] at this
  exact this
theorem id_ply {d : Dc} {n : Int} (hl : lstE (idL d.rate d.drop nmA n) = 0) : (plyG (idL d.rate d.drop nmA n) nmA).1 = [⟨0, n⟩] := by
 have hc := id_cut hl
 have e : plyL nmA (idL d.rate d.drop nmA n).cuts = [⟨0, n⟩] := by
  show (if nmA = nmA then [(⟨0, lastV (idC n) + 1⟩ : Spn)] else []) ++ [] = _
  rw [if_pos rfl]
  have : lastV (idC n) = n - 1 := id_led n (n - 1)
  rw [this]
  simp
 have h0 := hc.io
 have h1 := hc.o1
 unfold plyG
 rw [if_pos hl, e, nor_in (by simp) (fun s hs => by rcases List.mem_singleton.1 hs with rfl; exact ⟨Int.le_refl _, h1⟩), join_one]
 rw [if_pos (show (⟨0, n⟩ : Spn).i < (⟨0, n⟩ : Spn).o from h0)]
theorem lost_none {s : Spn} {n : Int} (h0 : 0 ≤ s.i) (h1 : s.i < s.o) (h2 : s.o ≤ n) (hn : n ≤ 5184000) : lostV s [⟨0, n⟩] = 0 := by
 have cs : chkS [s] = 0 := chkS_ok.2 ⟨by simp, ⟨h1, fun t ht => (by cases ht), trivial⟩, fun u hu => by
  rcases List.mem_singleton.1 hu with rfl
  exact ⟨h0, by show u.o ≤ 10378368000; omega⟩⟩
 have cn : chkS [(⟨0, n⟩ : Spn)] = 0 := chkS_ok.2 ⟨by simp, ⟨by show (0 : Int) < n; omega, fun t ht => (by cases ht), trivial⟩, fun u hu => by
  rcases List.mem_singleton.1 hu with rfl
  exact ⟨Int.le_refl _, by show n ≤ 10378368000; omega⟩⟩
 have e2 : (subS [s] [⟨0, n⟩]).2 = 0 := by
  unfold subS
  rw [if_pos (twoS_ok.2 ⟨cs, cn⟩)]
  unfold limS
  rw [if_neg (by
   have a1 := com_one_len s (rstS (mT + 1) 0 [⟨0, n⟩])
   have a2 := rst_len2 (mT + 1) [⟨0, n⟩] 0
   simp only [List.length_singleton] at a2
   omega)]
 obtain ⟨_, _, k3, k4⟩ := subS_ok e2
 unfold lostV
 rw [lnS_cnt k3]
 exact cnt_none (fun f _ _ hf => by
  obtain ⟨⟨u, hu, hu2⟩, hno⟩ := (k4 f).1 hf
  rcases List.mem_singleton.1 hu with rfl
  have := hu2.1
  have := hu2.2
  exact hno ⟨⟨0, n⟩, List.mem_singleton.2 rfl, ⟨by show 0 ≤ f; omega, by show f < n; omega⟩⟩)
theorem id_fates {d : Dc} {n : Int} (h : dcE d = 0) (hl : lstE (idL d.rate d.drop nmA n) = 0) (hs : ∀ x ∈ d.evs, x.o ≤ n) :
  (fatA (idD d) (idL d.rate d.drop nmA n) (rawP (idD d) (idL d.rate d.drop nmA n))).length = d.evs.length ∧ ∀ f ∈ fatA (idD d) (idL d.rate d.drop nmA n) (rawP (idD d) (idL d.rate d.drop nmA n)), f.lost = 0 ∧ f.parts.length = 1 := by
 have hlen : (fat0 (idD d) (idL d.rate d.drop nmA n)).length = d.evs.length := by
  unfold fat0 idD
  rw [List.flatMap_cons, List.flatMap_nil, List.append_nil, fatR_len]
 refine ⟨by rw [fatA_len, hlen], fun f hf => ?_⟩
 obtain ⟨q, hq⟩ := List.getElem?_of_mem hf
 have hql : q < (fat0 (idD d) (idL d.rate d.drop nmA n)).length := by rw [← fatA_len]; exact (List.getElem?_eq_some_iff.1 hq).1
 obtain ⟨f0, hf0⟩ : ∃ f0, (fat0 (idD d) (idL d.rate d.drop nmA n))[q]? = some f0 := ⟨_, List.getElem?_eq_getElem hql⟩
 have hf2 := fatA_at (A := rawP (idD d) (idL d.rate d.drop nmA n)) hf0
 rw [hq] at hf2
 have hf3 := Option.some.inj hf2
 obtain ⟨k, x, j, e, hk, hj, rfl, rfl⟩ := fat0_dec hf0
 have hk0 : k = 0 := by
  have := (List.getElem?_eq_some_iff.1 hk).1
  simp [idD] at this
  exact this
 subst hk0
 obtain rfl : x = ⟨nmA, d⟩ := by
  have h9 : (idD d)[0]? = some ⟨nmA, d⟩ := rfl
  rw [h9] at hk
  exact (Option.some.inj hk).symm
 have hee := id_evs h hs e (List.mem_of_getElem? hj)
 have e2 : staN (idD d) (idL d.rate d.drop nmA n) 0 = 0 := rfl
 rw [hf3]
 refine ⟨?_, ?_⟩
 ·show lostV (evS e) (plyG (idL d.rate d.drop nmA n) nmA).1 = 0
  rw [id_ply hl]
  exact lost_none hee.1.1 hee.1.2.1 hee.1.2.2 (id_cut hl).o1
 rw [e2, id_raw h hl hs]
 simp only [List.nil_append, List.length_map]
 rw [prtQ_one (k := 0) (j := j) hj]
 rfl
theorem id_at {d : Dc} {n : Int} (hl : lstE (idL d.rate d.drop nmA n) = 0) (f : Int) : pcsG (idL d.rate d.drop nmA n) nmA = ([pcOf (idC n)], 0) ∧ atP [pcOf (idC n)] f = if 0 ≤ f ∧ f < n then (f, true) else (0, false) := by
 refine ⟨?_, ?_⟩
 ·unfold pcsG
  rw [if_pos hl]
  rfl
 rw [at_good (id_cut hl).chk]
 unfold fndP
 by_cases hf : 0 ≤ f ∧ f < n
 ·rw [if_pos hf]
  have e : ([pcOf (idC n)] : List Pc).find? (inBp f) = some (pcOf (idC n)) := by
   rw [List.find?_cons_of_pos (inBp_iff.2 hf)]
  rw [e]
  show (ledP (pcOf (idC n)) f, true) = _
  rw [id_led]
 rw [if_neg hf]
 have e : ([pcOf (idC n)] : List Pc).find? (inBp f) = none := by
  rw [List.find?_cons_of_neg (fun h => hf (inBp_iff.1 h))]
  rfl
 rw [e]
open Go.RowKit Go.Joins
theorem fewD_ok {d : Dc} (h : DcOk d) : DcOk (fewD d) :=
 ⟨h.title, h.rate, by have := h.regl; show (d.regs.take 8).length ≤ _; rw [List.length_take]; omega, by have := h.evl; show (d.evs.take 5).length ≤ _; rw [List.length_take]; omega, by have := h.cml; show (d.cms.take 5).length ≤ _; rw [List.length_take]; omega, fun x hx => h.evs x (List.mem_of_mem_take hx), fun x hx => h.cms x (List.mem_of_mem_take hx)⟩
theorem fewD_evs (d : Dc) : (fewD d).evs.length ≤ 5 := by
 show (d.evs.take 5).length ≤ 5
 rw [List.length_take]
 omega
theorem id_rds {d : Dc} (h : DcOk d) : RdsOk (idD d) := ⟨by simp [idD], fun x hx => by unfold idD at hx; rcases List.mem_singleton.1 hx with rfl; exact h⟩
theorem id_lsok {r : Int} {dr : Bool} {n : Int} (h : 0 ≤ r ∧ r ≤ 255) : LsOk (idL r dr nmA n) :=
 ⟨by simp [idL], h, by simp [idL], fun x hx => by rcases List.mem_singleton.1 hx with rfl; show (-9223372036854775808 ≤ (1 : Int) ∧ (1 : Int) ≤ 9223372036854775807) ∧ -9223372036854775808 ≤ (1 : Int) ∧ (1 : Int) ≤ 9223372036854775807; decide⟩
theorem id_shw {d : Dc} {n : Int} (h : dcE d = 0) (hl : lstE (idL d.rate d.drop nmA n) = 0) (hs : ∀ x ∈ d.evs, x.o ≤ n) {ys : List Rg} (hp : ys.Perm (regsL (idD d))) : shwV ys (evsA (rawP (idD d) (idL d.rate d.drop nmA n))) = shwV d.regs d.evs := by
 refine shwV_same (id_spans h hl hs) (fun f => ?_)
 by_cases hf : 0 ≤ f ∧ f < n
 ·exact id_scr h hl hp hf.1 hf.2
 rw [(conf_scr (id_ok h hl) hp f).2 (.inl (by
  unfold atG
  rw [if_pos hl]
  show (if (0 : Int) ≤ f ∧ f < n then (nmA, ledP (pcOf (idC n)) f, true) else (([] : List UInt8), (0 : Int), false)).2.2 = false
  rw [if_neg hf]))]
 refine (scr_nil d.regs ?_).symm
 unfold lkA atE
 rw [List.filter_eq_nil_iff.2 (fun x hx hb => ?_)]
 ·rfl
 have h1 := atB_iff.1 hb
 have h2 := (id_evs h hs x hx).1
 exact hf ⟨by omega, by omega⟩
theorem id_len {d : Dc} {n : Int} (h : dcE d = 0) (hl : lstE (idL d.rate d.drop nmA n) = 0) (hs : ∀ x ∈ d.evs, x.o ≤ n) : (rawP (idD d) (idL d.rate d.drop nmA n)).length = d.evs.length := by
 rw [id_raw h hl hs, renL_len]
theorem rds_one {w : World} {g : Nat} {d : Dc} {r e c : Value} (h : Held w g (.string (sB nmA) :: d.cs r e c)) (hd : DocAt w d r e c) : RdsAt w (.slice (some ⟨g, 0, none⟩) 1 1) (idD d) := by
 refine ⟨some ⟨g, 0, none⟩, 1, rfl, Nat.le_refl _, by decide, fun k y hy => ?_⟩
 cases k with
 | zero =>
  cases hy
  refine ⟨g, 0, .string (sB nmA) :: d.cs r e c, rfl, rfl, fun j u hu => ?_, r, e, c, rfl, hd⟩
  rw [Nat.zero_mul, Nat.add_zero, Nat.zero_add, h.cell]
  exact hu
 | succ k => cases hy
end Go.Proofs.YtmopjhbfobmklaaGreatDoor
