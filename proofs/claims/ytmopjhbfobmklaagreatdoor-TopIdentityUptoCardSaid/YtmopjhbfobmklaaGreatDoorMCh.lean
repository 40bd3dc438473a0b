/-
  Fates in memory; what Conform computes. The conditions of the contracts are their hypotheses.
-/
import Derived.Test.YtmopjhbfobmklaaGreatDoorMCh8
import Derived.Test.YtmopjhbfobmklaaGreatDoorMK3
import Derived.Test.YtmopjhbfobmklaaGreatDoorMMp
set_option maxRecDepth 100000
set_option maxHeartbeats 40000000
namespace Go.Proofs.YtmopjhbfobmklaaGreatDoor
open Go.RowKit Go.Joins
set_option linter.unusedVariables false
set_option linter.unusedSimpArgs false
def KeepX (T : TypeId) (w w' : World) : Prop := ∀ (g : Nat) (o : Obj), w.heap[g]? = some o → (∀ cs, o ≠ .cells cs T (0, 0)) → w'.heap[g]? = some o
theorem KeepX.refl {T : TypeId} (w : World) : KeepX T w w := fun _ _ h _ => h
theorem KeepX.trans {T : TypeId} {a b c : World} (h : KeepX T a b) (k : KeepX T b c) : KeepX T a c := fun g o h1 h2 => k g o (h g o h1 h2) h2
theorem KeepX.ext {T : TypeId} {w w' : World} (hb : Below w.heap.size w w') : KeepX T w w' := fun g o h _ => (hb.block g (Array.getElem?_eq_some_iff.1 h).1).trans h
theorem KeepX.put {T : TypeId} {w : World} {b : Nat} {cs0 : Array Value} (hb : w.heap[b]? = some (.cells cs0 T (0, 0))) (i : Nat) (u : Value) : KeepX T w (w.setCell ⟨b, i, none⟩ u) := by
 intro g o h hne
 rw [Below.heap_setCell w ⟨b, i, none⟩ u g (fun e => ?_)]
 ·exact h
 have e : g = b := e
 subst e
 rw [hb] at h
 cases h
 exact hne _ rfl
theorem KeepX.puts {T : TypeId} {b : Nat} : ∀ (vs : List Value) {w : World} {cs0 : List Value} (o : Nat), HeldT w b T cs0 → KeepX T w (w.setCells b o vs)
 | [], w, _, _, _ => KeepX.refl w
 | v :: r, w, _, o, hb => (KeepX.put hb o v).trans (KeepX.puts r (o + 1) (hb.set o v))
theorem KeepX.grown {T : TypeId} {w w' : World} {B : Nat} {sz : Nat} {v : Value} {n : Nat} {xs : List Value} (ho : w.ownsRow B T sz v n xs) (hg : w.grownBy w' v.ownBlock) : KeepX T w w' := by
 intro g o h hne
 refine (hg.block g (Array.getElem?_eq_some_iff.1 h).1 (fun e => ?_)).trans h
 obtain ⟨cur, h2⟩ := own_block ho e.symm
 rw [h2] at h
 cases h
 exact hne _ rfl
theorem KeepX.keepS {T : TypeId} {S : TypeId → Prop} {w w' : World} (h : KeepX T w w') (hne : ¬ S T) : KeepS S w w' := fun g cs t ht hh => h g _ hh (fun cs' e => by
 injection e with _ e2 _
 subst e2
 exact hne ht)
theorem KeepX.heldT {T t : TypeId} {w w' : World} {g : Nat} {cs : List Value} (h : KeepX T w w') (hh : HeldT w g t cs) (hne : t ≠ T) : HeldT w' g t cs := h g _ hh (fun cs' e => by
 injection e with _ e2 _
 exact hne e2)
theorem KeepX.own {T e : TypeId} {w w' : World} {B sz : Nat} {v : Value} {n : Nat} {xs : List Value} (h : KeepX T w w') (ho : w.ownsRow B e sz v n xs) (hne : e ≠ T) : w'.ownsRow B e sz v n xs :=
 own_same ho (fun g hg => by
  obtain ⟨cur, hh⟩ := own_block ho hg
  rw [hh]
  exact h g _ hh (fun cs' e' => by
   injection e' with _ e2 _
   exact hne e2))
theorem KeepX.mapS {T : TypeId} {w w' : World} {b n : Nat} {F : List UInt8 → Option Int} (h : KeepX T w w') (hm : MapS w b n F) : MapS w' b n F := by
 obtain ⟨D, ⟨es, clock, hb, r⟩, hat⟩ := hm
 exact ⟨D, ⟨es, clock, h b _ hb (fun cs e => by cases e), r⟩, hat⟩
theorem KeepX.evs {T : TypeId} {w w' : World} {D : Nat} {v : Value} {E : List Ev} (h : KeepX T w w') (ho : OwnS w D 55 7 EvT2 v E) (hne : 55 ≠ T) (hr : ¬ IsRow T) : OwnS w' D 55 7 EvT2 v E := by
 obtain ⟨cs, h1, h2⟩ := ho
 exact ⟨cs, h1.mono (fun c x hc => hc.keep (h.keepS hr)), h.own h2 hne⟩
structure Ft where
 reel : List UInt8
 id : Int
 parts : List Int
 lost : Int
def Ft.cs (f : Ft) (p : Value) : List Value := [.string (sB f.reel), .int .i64 f.id, p, .int .i64 f.lost, .slice none 0 0]
def ftC : List Ft → List Value → List Value
 | f :: F, p :: ps => f.cs p ++ ftC F ps
 | _, _ => []
theorem ftC_len : ∀ {F : List Ft} {ps : List Value}, ps.length = F.length → (ftC F ps).length = F.length * 5
 | [], ps, h => by cases ps <;> simp [ftC]
 | f :: F, [], h => by simp at h
 | f :: F, p :: ps, h => by
  have ih := ftC_len (F := F) (ps := ps) (by simpa using h)
  unfold ftC
  rw [List.length_append, ih, List.length_cons, Nat.succ_mul]
  have : (f.cs p).length = 5 := rfl
  omega
theorem ftC_get : ∀ {F : List Ft} {ps : List Value} {j : Nat} {f : Ft} {p : Value}, F[j]? = some f → ps[j]? = some p → ∀ k, k < 5 → (ftC F ps)[j * 5 + k]? = (f.cs p)[k]?
 | [], _, j, f, p, h, _, _, _ => by simp at h
 | g :: F, [], j, f, p, _, h, _, _ => by simp at h
 | g :: F, q :: ps, 0, f, p, h1, h2, k, hk => by
  cases h1
  cases h2
  unfold ftC
  rw [Nat.zero_mul, Nat.zero_add, List.getElem?_append_left (by have : (g.cs q).length = 5 := rfl; omega)]
 | g :: F, q :: ps, j + 1, f, p, h1, h2, k, hk => by
  have ih := ftC_get (F := F) (ps := ps) (j := j) (f := f) (p := p) (by simpa using h1) (by simpa using h2) k hk
  have h5 : (g.cs q).length = 5 := rfl
  unfold ftC
  rw [List.getElem?_append_right (by rw [h5, Nat.succ_mul]; omega), h5, ← ih]
  congr 1
  rw [Nat.succ_mul]
  omega
theorem ftC_set : ∀ {F : List Ft} {ps : List Value} {j : Nat} (p' : Value), ps.length = F.length → j < F.length → (ftC F ps).set (j * 5 + 2) p' = ftC F (ps.set j p')
 | [], _, j, _, _, h => by simp at h
 | g :: F, [], j, _, h, _ => by simp at h
 | g :: F, q :: ps, 0, p', h1, h2 => by
  unfold ftC
  rfl
 | g :: F, q :: ps, j + 1, p', h1, h2 => by
  have ih := ftC_set (F := F) (ps := ps) (j := j) p' (by simpa using h1) (by simpa using h2)
  have h5 : (g.cs q).length = 5 := rfl
  rw [List.set_cons_succ]
  unfold ftC
  rw [← ih, List.set_append_right _ _ (by rw [h5, Nat.succ_mul]; omega), h5]
  congr 2
  rw [Nat.succ_mul]
  omega
theorem ftC_same : ∀ {F F' : List Ft} {ps : List Value}, F'.length = F.length → (∀ (j : Nat) (f f' : Ft), F[j]? = some f → F'[j]? = some f' → f'.reel = f.reel ∧ f'.id = f.id ∧ f'.lost = f.lost) → ftC F' ps = ftC F ps
 | [], [], ps, _, _ => rfl
 | f :: F, f' :: F', [], _, _ => rfl
 | f :: F, f' :: F', p :: ps, h, hs => by
  have ih := ftC_same (F := F) (F' := F') (ps := ps) (by simpa using h) (fun j a b ha hb => hs (j + 1) a b (by simpa using ha) (by simpa using hb))
  obtain ⟨h1, h2, h3⟩ := hs 0 f f' rfl rfl
  unfold ftC
  rw [ih]
  unfold Ft.cs
  rw [h1, h2, h3]
 | [], _ :: _, _, h, _ => by simp at h
 | _ :: _, [], _, h, _ => by simp at h
theorem ftC_snoc : ∀ {F : List Ft} {ps : List Value} (f : Ft) (p : Value), ps.length = F.length → ftC (F ++ [f]) (ps ++ [p]) = ftC F ps ++ f.cs p
 | [], [], f, p, _ => by simp [ftC]
 | g :: F, q :: ps, f, p, h => by
  have ih := ftC_snoc (F := F) (ps := ps) f p (by simpa using h)
  rw [List.cons_append, List.cons_append]
  unfold ftC
  rw [ih, List.append_assoc]
 | [], _ :: _, _, _, h => by simp at h
 | _ :: _, [], _, _, h => by simp at h
structure FtsI (w : World) (D : Nat) (v : Value) (F : List Ft) (ps : List Value) : Prop where
 own : w.ownsRow D 48 5 v F.length (ftC F ps)
 len : ps.length = F.length
 parts : ∀ (j : Nat) (f : Ft) (p : Value), F[j]? = some f → ps[j]? = some p → w.ownsRow D 2 1 p f.parts.length (f.parts.map (Value.int .i64))
 apart : ∀ (i j : Nat) (p q : Value), i ≠ j → ps[i]? = some p → ps[j]? = some q → ∀ g, p.ownBlock = some g → q.ownBlock ≠ some g
theorem FtsI.keep {T : TypeId} {w w' : World} {D : Nat} {v : Value} {F : List Ft} {ps : List Value} (h : FtsI w D v F ps) (hk : KeepX T w w') (h1 : 48 ≠ T) (h2 : 2 ≠ T) : FtsI w' D v F ps :=
 ⟨hk.own h.own h1, h.len, fun j f p hf hp => hk.own (h.parts j f p hf hp) h2, h.apart⟩
theorem FtsI.ext {w w' : World} {D : Nat} {v : Value} {F : List Ft} {ps : List Value} (h : FtsI w D v F ps) (hb : Below w.heap.size w w') : FtsI w' D v F ps :=
 ⟨own_ext h.own hb, h.len, fun j f p hf hp => own_ext (h.parts j f p hf hp) hb, h.apart⟩
theorem FtsI.nil (w : World) (D : Nat) : FtsI w D (.slice none 0 0) [] [] :=
 ⟨World.ownsRow_nil _ _ _ _, rfl, fun j f p hf _ => by simp at hf, fun i j p q _ hp _ => by simp at hp⟩
theorem FtsI.snoc {w w' : World} {D : Nat} {v v' : Value} {F : List Ft} {ps : List Value} (h : FtsI w D v F ps) (hk : KeepX 48 w w') (f : Ft) (hf : f.parts = []) (ho : w'.ownsRow D 48 5 v' (F.length + 1) (ftC F ps ++ f.cs (.slice none 0 0))) : FtsI w' D v' (F ++ [f]) (ps ++ [.slice none 0 0]) := by
 refine ⟨by rw [ftC_snoc f _ h.len, List.length_append]; exact ho, by rw [List.length_append, List.length_append, h.len]; rfl, fun j g p hg hp => ?_, fun i j p q hij hp hq g hpg => ?_⟩
 ·by_cases hj : j < F.length
  ·rw [List.getElem?_append_left hj] at hg
   rw [List.getElem?_append_left (by rw [h.len]; exact hj)] at hp
   exact hk.own (h.parts j g p hg hp) (by decide)
  rw [List.getElem?_append_right (by omega)] at hg
  rw [List.getElem?_append_right (by rw [h.len]; omega)] at hp
  have h1 := List.mem_singleton.1 (List.mem_of_getElem? hg)
  have h2 := List.mem_singleton.1 (List.mem_of_getElem? hp)
  subst h1; subst h2
  rw [hf]
  exact World.ownsRow_nil _ _ _ _
 by_cases hi : i < ps.length
 ·rw [List.getElem?_append_left hi] at hp
  by_cases hj : j < ps.length
  ·rw [List.getElem?_append_left hj] at hq
   exact h.apart i j p q hij hp hq g hpg
  rw [List.getElem?_append_right (by omega)] at hq
  have h2 := List.mem_singleton.1 (List.mem_of_getElem? hq)
  subst h2
  exact fun e => by cases e
 rw [List.getElem?_append_right (by omega)] at hp
 have h2 := List.mem_singleton.1 (List.mem_of_getElem? hp)
 subst h2
 cases hpg
def Ft.add (f : Ft) (id : Int) : Ft := ⟨f.reel, f.id, f.parts ++ [id], f.lost⟩
theorem FtsI.part {w w1 w2 : World} {D fb fc : Nat} {F : List Ft} {ps : List Value} {n : Nat} (h : FtsI w D (.slice (some ⟨fb, 0, none⟩) n fc) F ps) {j : Nat} {f : Ft} {p : Value} (hf : F[j]? = some f) (hp : ps[j]? = some p) {id : Int} {g cap m : Nat}
  (ho : w1.ownsRow D 2 1 (.slice (some ⟨g, 0, none⟩) m cap) (f.parts.length + 1) ((f.parts ++ [id]).map (Value.int .i64))) (hg : w.grownBy w1 p.ownBlock) (hw : p.ownBlock = some g ∨ w.heap.size ≤ g)
  (h2 : w2 = w1.setCell ⟨fb, j * 5 + 2, none⟩ (.slice (some ⟨g, 0, none⟩) m cap)) : FtsI w2 D (.slice (some ⟨fb, 0, none⟩) n fc) (F.set j (f.add id)) (ps.set j (.slice (some ⟨g, 0, none⟩) m cap)) := by
 subst h2
 have hn : n = F.length := by
  have h3 := h.own
  rcases h3.2 with ⟨e, _⟩ | ⟨_, _, _, e, _⟩
  ·cases e
  injection e with _ e _
 subst hn
 have hjl : j < F.length := (List.getElem?_eq_some_iff.1 hf).1
 have K1 : KeepX 2 w w1 := KeepX.grown (h.parts j f p hf hp) hg
 have o1 := K1.own h.own (by decide)
 obtain ⟨cur, hcur⟩ := own_block o1 (g := fb) rfl
 have K2 : KeepX 48 w1 (w1.setCell ⟨fb, j * 5 + 2, none⟩ (.slice (some ⟨g, 0, none⟩) m cap)) := KeepX.put hcur _ _
 have e1 : (F.set j (f.add id)).length = F.length := by simp
 refine ⟨?_, by simp [h.len], fun i f2 p2 hf2 hp2 => ?_, fun i k a b hik ha hb q hq => ?_⟩
 ·have o2 := own_cell o1 (j * 5 + 2) (.slice (some ⟨g, 0, none⟩) m cap) (by rw [ftC_len h.len]; omega)
  rw [ftC_set _ h.len hjl] at o2
  rw [e1, ftC_same (F := F) e1 (fun i a b ha hb => by
   by_cases hij : i = j
   ·subst hij
    rw [List.getElem?_set_self (by omega)] at hb
    rw [hf] at ha
    cases ha
    cases hb
    exact ⟨rfl, rfl, rfl⟩
   rw [List.getElem?_set_ne (Ne.symm hij)] at hb
   rw [ha] at hb
   cases hb
   exact ⟨rfl, rfl, rfl⟩)]
  exact o2
 ·by_cases hij : i = j
  ·subst hij
   rw [List.getElem?_set_self (by omega)] at hf2
   rw [List.getElem?_set_self (by rw [h.len]; omega)] at hp2
   cases hf2
   cases hp2
   have := K2.own ho (by decide)
   unfold Ft.add
   rw [List.length_append]
   exact this
  rw [List.getElem?_set_ne (Ne.symm hij)] at hf2 hp2
  have o3 := h.parts i f2 p2 hf2 hp2
  refine K2.own (own_same o3 (fun q hq => hg.block q (o3.lt q hq).2 (fun e => ?_))) (by decide)
  exact h.apart i j p2 p hij hp2 hp q hq e.symm
 by_cases hij : i = j
 ·subst hij
  rw [List.getElem?_set_self (by rw [h.len]; omega)] at ha
  rw [List.getElem?_set_ne hik] at hb
  cases ha
  cases hq
  intro hbq
  obtain ⟨f3, hf3⟩ : ∃ f3, F[k]? = some f3 := ⟨_, List.getElem?_eq_getElem (by have := (List.getElem?_eq_some_iff.1 hb).1; rw [h.len] at this; exact this)⟩
  have o3 := h.parts k f3 b hf3 hb
  rcases hw with hw | hw
  ·exact h.apart i k p b hik hp hb g hw hbq
  have := (o3.lt g hbq).2
  omega
 rw [List.getElem?_set_ne (Ne.symm hij)] at ha
 by_cases hkj : k = j
 ·subst hkj
  rw [List.getElem?_set_self (by rw [h.len]; omega)] at hb
  cases hb
  intro e
  cases e
  obtain ⟨f3, hf3⟩ : ∃ f3, F[i]? = some f3 := ⟨_, List.getElem?_eq_getElem (by have := (List.getElem?_eq_some_iff.1 ha).1; rw [h.len] at this; exact this)⟩
  have o3 := h.parts i f3 a hf3 ha
  rcases hw with hw | hw
  ·exact h.apart i k a p hij ha hp g hq hw
  have := (o3.lt g hq).2
  omega
 rw [List.getElem?_set_ne (Ne.symm hkj)] at hb
 exact h.apart i k a b hik ha hb q hq
theorem evs_put {w : World} {D : Nat} {v : Value} {E : List Ev} {X : Nat} {cs : List Value} (h : OwnS w D 55 7 EvT2 v E) (hx : HeldT w X 55 cs) (hne : v.ownBlock ≠ some X) (i : Nat) (u : Value) : OwnS (w.setCell ⟨X, i, none⟩ u) D 55 7 EvT2 v E := by
 obtain ⟨cl, h1, h2⟩ := h
 exact ⟨cl, h1.mono (fun c x hc => hc.keep (KeepS.put hx (by unfold IsRow; decide) i u)), own_put h2 hne i u⟩
theorem evs_ext {w w' : World} {D : Nat} {v : Value} {E : List Ev} (h : OwnS w D 55 7 EvT2 v E) (hb : Below w.heap.size w w') : OwnS w' D 55 7 EvT2 v E := by
 obtain ⟨cl, h1, h2⟩ := h
 exact ⟨cl, h1.mono (fun c x hc => hc.keep (KeepS.ext hb)), own_ext h2 hb⟩
def evS (x : Ev) : Spn := ⟨x.i, x.o⟩
def fatR (d : Lst) (x : Rd) : List Ft := x.doc.evs.map fun e => ⟨x.reel, e.id, [], lostV (evS e) (plyG d x.reel).1⟩
def fat0 (l : List Rd) (d : Lst) : List Ft := l.flatMap (fatR d)
def fatK (l : List Rd) (d : Lst) (k : Nat) : List Ft := (l.take k).flatMap (fatR d)
theorem fatK_step {l : List Rd} {d : Lst} {k : Nat} {x : Rd} (h : l[k]? = some x) : fatK l d (k + 1) = fatK l d k ++ fatR d x := by
 unfold fatK
 rw [List.take_add_one, h, Option.toList_some, List.flatMap_append]
 simp
theorem fatK_all (l : List Rd) (d : Lst) : fatK l d l.length = fat0 l d := by unfold fatK fat0; rw [List.take_length]
theorem fatR_len (d : Lst) (x : Rd) : (fatR d x).length = x.doc.evs.length := by unfold fatR; simp
theorem fatR_step {d : Lst} {x : Rd} {j : Nat} {e : Ev} (h : x.doc.evs[j]? = some e) : (fatR d x).take (j + 1) = (fatR d x).take j ++ [⟨x.reel, e.id, [], lostV (evS e) (plyG d x.reel).1⟩] := by
 rw [List.take_add_one]
 unfold fatR
 rw [List.getElem?_map, h]
 rfl
def staN (l : List Rd) (d : Lst) (k : Nat) : Nat := (fatK l d k).length
theorem fatK_len {l : List Rd} {d : Lst} (h : ∀ x ∈ l, x.doc.evs.length ≤ 400) : ∀ k, (fatK l d k).length ≤ k * 400 := by
 intro k
 induction k with
 | zero => unfold fatK; simp
 | succ k ih =>
  cases hx : l[k]? with
  | none =>
   have e : fatK l d (k + 1) = fatK l d k := by
    unfold fatK
    rw [List.take_add_one, hx]
    simp
   rw [e]
   exact Nat.le_trans ih (Nat.mul_le_mul_right 400 (Nat.le_succ k))
  | some x =>
   rw [fatK_step hx, List.length_append, fatR_len, Nat.succ_mul]
   exact Nat.add_le_add ih (h x (List.mem_of_getElem? hx))
theorem sta_in {l : List Rd} {d : Lst} {k j : Nat} {x : Rd} {e : Ev} (hk : l[k]? = some x) (hj : x.doc.evs[j]? = some e) : (fat0 l d)[staN l d k + j]? = some ⟨x.reel, e.id, [], lostV (evS e) (plyG d x.reel).1⟩ := by
 have h1 : fat0 l d = fatK l d k ++ (fatR d x ++ (l.drop (k + 1)).flatMap (fatR d)) := by
  have h2 : l = l.take k ++ (x :: l.drop (k + 1)) := by
   have h3 := List.drop_eq_getElem_cons (List.getElem?_eq_some_iff.1 hk).1
   rw [(List.getElem?_eq_some_iff.1 hk).2] at h3
   rw [← h3, List.take_append_drop]
  unfold fat0 fatK
  conv => lhs; rw [h2]
  rw [List.flatMap_append, List.flatMap_cons]
 unfold staN
 rw [h1, List.getElem?_append_right (by omega), show (fatK l d k).length + j - (fatK l d k).length = j by omega, List.getElem?_append_left (by rw [fatR_len]; exact (List.getElem?_eq_some_iff.1 hj).1)]
 unfold fatR
 rw [List.getElem?_map, hj]
 rfl
def fstM (l : List Rd) (d : Lst) : Nat → List UInt8 → Option Int
 | 0 => fun _ => none
 | k + 1 => match l[k]? with
  | some x => setG (fstM l d k) x.reel (staN l d k)
  | none => fstM l d k
theorem fstM_step {l : List Rd} {d : Lst} {k : Nat} {x : Rd} (h : l[k]? = some x) : fstM l d (k + 1) = setG (fstM l d k) x.reel (staN l d k) := by
 show (match l[k]? with | some x => setG (fstM l d k) x.reel (staN l d k) | none => fstM l d k) = _
 rw [h]
theorem fstM_at {l : List Rd} {d : Lst} (hd : ∀ (i j : Nat) (x y : Rd), l[i]? = some x → l[j]? = some y → x.reel = y.reel → i = j) : ∀ (n k : Nat) (x : Rd), k < n → l[k]? = some x → fstM l d n x.reel = some (staN l d k : Int) := by
 intro n
 induction n with
 | zero => intro k x h; omega
 | succ n ih =>
  intro k x hkn hk
  cases hy : l[n]? with
  | none =>
   have h1 := (List.getElem?_eq_some_iff.1 hk).1
   have h2 := List.getElem?_eq_none_iff.1 hy
   have e : fstM l d (n + 1) = fstM l d n := by
    show (match l[n]? with | some x => setG (fstM l d n) x.reel (staN l d n) | none => fstM l d n) = _
    rw [hy]
   rw [e]
   exact ih k x (by omega) hk
  | some y =>
   rw [fstM_step hy]
   unfold setG
   by_cases he : x.reel = y.reel
   ·rw [if_pos he, hd k n x y hk hy he]
   rw [if_neg he]
   refine ih k x ?_ hk
   have : k ≠ n := fun e => by
    subst e
    rw [hk] at hy
    cases hy
    exact he rfl
   omega
def prtE (c : Ct) (n : Nat) (x : Ev) : Ev := ⟨(n : Int) + 1, (partV c (evS x)).1.i, (partV c (evS x)).1.o, x.reg, x.kind, x.spk, x.rows⟩
def accE (c : Ct) (q : Nat) (A : List (Nat × Ev)) (x : Ev) : List (Nat × Ev) := if (partV c (evS x)).2 = true then A ++ [(q, prtE c A.length x)] else A
def accL (c : Ct) (s : Nat) : Nat → List Ev → List (Nat × Ev) → List (Nat × Ev)
 | _, [], A => A
 | j, x :: t, A => accL c s (j + 1) t (accE c (s + j) A x)
theorem accL_drop {c : Ct} {s : Nat} {E : List Ev} {j : Nat} {x : Ev} {A : List (Nat × Ev)} (h : E[j]? = some x) : accL c s j (E.drop j) A = accL c s (j + 1) (E.drop (j + 1)) (accE c (s + j) A x) := by
 rw [List.drop_eq_getElem_cons (List.getElem?_eq_some_iff.1 h).1, (List.getElem?_eq_some_iff.1 h).2]
 rfl
def accC (l : List Rd) (d : Lst) (c : Ct) (A : List (Nat × Ev)) : List (Nat × Ev) :=
 match l[(fndD c.reel 0 l).toNat]? with
 | some x => if fndD c.reel 0 l < 0 then A else accL c (staN l d (fndD c.reel 0 l).toNat) 0 x.doc.evs A
 | none => A
def accJ (l : List Rd) (d : Lst) : List Ct → List (Nat × Ev) → List (Nat × Ev)
 | [], A => A
 | c :: t, A => accJ l d t (accC l d c A)
theorem accJ_drop {l : List Rd} {d : Lst} {J : List Ct} {k : Nat} {c : Ct} {A : List (Nat × Ev)} (h : J[k]? = some c) : accJ l d (J.drop k) A = accJ l d (J.drop (k + 1)) (accC l d c A) := by
 rw [List.drop_eq_getElem_cons (List.getElem?_eq_some_iff.1 h).1, (List.getElem?_eq_some_iff.1 h).2]
 rfl
def rawP (l : List Rd) (d : Lst) : List (Nat × Ev) := accJ l d (jnC d.cuts) []
def evsA (A : List (Nat × Ev)) : List Ev := A.map (·.2)
def fatA (l : List Rd) (d : Lst) (A : List (Nat × Ev)) : List Ft := A.foldl (fun F q => match F[q.1]? with | some f => F.set q.1 (f.add q.2.id) | none => F) (fat0 l d)
theorem fatA_snoc {l : List Rd} {d : Lst} {A : List (Nat × Ev)} {q : Nat} {e : Ev} {f : Ft} (h : (fatA l d A)[q]? = some f) : fatA l d (A ++ [(q, e)]) = (fatA l d A).set q (f.add e.id) := by
 unfold fatA at *
 rw [List.foldl_append]
 simp only [List.foldl_cons, List.foldl_nil]
 rw [h]
theorem fatA_len (l : List Rd) (d : Lst) (A : List (Nat × Ev)) : (fatA l d A).length = (fat0 l d).length := by
 unfold fatA
 generalize fat0 l d = F
 induction A generalizing F with
 | nil => rfl
 | cons q t ih =>
  rw [List.foldl_cons, ih]
  split
  ·simp
  rfl
theorem fnd_in {nm : List UInt8} : ∀ {l : List Rd} {k : Nat}, (fndD nm k l = -1 ∧ ∀ x ∈ l, x.reel ≠ nm) ∨ ∃ (j : Nat) (x : Rd), fndD nm k l = ((k + j : Nat) : Int) ∧ l[j]? = some x ∧ x.reel = nm
 | [], k => .inl ⟨rfl, fun x hx => by cases hx⟩
 | y :: t, k => by
  unfold fndD
  by_cases h : y.reel = nm
  ·rw [if_pos h]
   exact .inr ⟨0, y, rfl, rfl, h⟩
  rw [if_neg h]
  rcases fnd_in (nm := nm) (l := t) (k := k + 1) with ⟨h1, h2⟩ | ⟨j, x, h1, h2, h3⟩
  ·refine .inl ⟨h1, fun x hx => ?_⟩
   rcases List.mem_cons.1 hx with rfl | hx
   ·exact h
   exact h2 x hx
  exact .inr ⟨j + 1, x, by rw [h1]; congr 1; omega, by simpa using h2, h3⟩
structure CP where
 D : Nat
 O : Nat
 R6 : Nat
 b : Nat
 n : Nat
 M : List UInt8 → Option Int
 title : List UInt8
 lang : List UInt8
 rate : Int
 drop : Bool
 rg : Value
 ys : List Rg
 fv : Value
 jv : Value
 J : List Ct
abbrev zdC : List Value := [.string ⟨#[]⟩, .string ⟨#[]⟩, .int .u8 0, .bool false, .int .i64 0, .slice none 0 0, .slice none 0 0, .slice none 0 0]
def CP.hdr (p : CP) (last : Int) (ev : Value) : List Value := [.string (sB p.title), .string (sB p.lang), .int .u8 p.rate, .bool p.drop, .int .i64 last, p.rg, ev, .slice none 0 0]
structure CS (p : CP) (last : Int) (ev : Value) (E : List Ev) (F : List Ft) (ps : List Value) (w : World) : Prop where
 out : HeldT w p.O 41 (p.hdr last ev)
 res : HeldT w p.R6 41 zdC
 evs : OwnS w p.D 55 7 EvT2 ev E
 fts : FtsI w p.D p.fv F ps
 map : MapS w p.b p.n p.M
 jct : w.ownsRow p.D 33 7 p.jv p.J.length (p.J.flatMap Ct.cs)
 rgs : w.ownsRow p.D 128 7 p.rg p.ys.length (p.ys.flatMap Rg.cs)
theorem CS.ext {p : CP} {last : Int} {ev : Value} {E : List Ev} {F : List Ft} {ps : List Value} {w w' : World} (h : CS p last ev E F ps w) (hb : Below w.heap.size w w') : CS p last ev E F ps w' :=
 ⟨h.out.ext hb, h.res.ext hb, evs_ext h.evs hb, h.fts.ext hb, h.map.ext hb, own_ext h.jct hb, own_ext h.rgs hb⟩
theorem CS.box {p : CP} {last : Int} {ev : Value} {E : List Ev} {F : List Ft} {ps : List Value} {w : World} (h : CS p last ev E F ps w) {X : Nat} {cs : List Value} (hx : HeldT w X 55 cs) (hne : ev.ownBlock ≠ some X) (i : Nat) (u : Value) : CS p last ev E F ps (w.setCell ⟨X, i, none⟩ u) := by
 have K : KeepX 55 w (w.setCell ⟨X, i, none⟩ u) := KeepX.put hx i u
 exact ⟨K.heldT h.out (by decide), K.heldT h.res (by decide), evs_put h.evs hx hne i u, h.fts.keep K (by decide) (by decide), K.mapS h.map, K.own h.jct (by decide), K.own h.rgs (by decide)⟩
theorem CS.num {p : CP} {last : Int} {ev : Value} {E : List Ev} {F : List Ft} {ps : List Value} {w : World} (h : CS p last ev E F ps w) (hne : p.O ≠ p.R6) (n : Int) : CS p n ev E F ps (w.setCell ⟨p.O, 4, none⟩ (.int .i64 n)) := by
 have K : KeepX 41 w (w.setCell ⟨p.O, 4, none⟩ (.int .i64 n)) := KeepX.put h.out _ _
 exact ⟨h.out.set 4 _, h.res.other (Ne.symm hne) 4 _, K.evs h.evs (by decide) (by unfold IsRow; decide), h.fts.keep K (by decide) (by decide), K.mapS h.map, K.own h.jct (by decide), K.own h.rgs (by decide)⟩
theorem CS.addEv {p : CP} {last : Int} {ev : Value} {E : List Ev} {F : List Ft} {ps : List Value} {w w1 : World} (h : CS p last ev E F ps w) (hne : p.O ≠ p.R6) {v' : Value} {cl : List (List Value)} (hcl : Al2 (EvT2 w) 7 cl E) (x : Ev) (r : Value) (hr : RowsT w r x.rows)
  (ho : w1.ownsRow p.D 55 7 v' (E.length + 1) (cl.flatten ++ x.cs r)) (hev : w.ownsRow p.D 55 7 ev E.length cl.flatten) (hg : w.grownBy w1 ev.ownBlock) : CS p last v' (E ++ [x]) F ps (w1.setCell ⟨p.O, 6, none⟩ v') := by
 have K1 : KeepX 55 w w1 := KeepX.grown hev hg
 have o1 := K1.heldT h.out (by decide)
 have K2 : KeepX 41 w1 (w1.setCell ⟨p.O, 6, none⟩ v') := KeepX.put o1 _ _
 have KT : KeepS IsRow w (w1.setCell ⟨p.O, 6, none⟩ v') := (K1.keepS (by unfold IsRow; decide)).trans (K2.keepS (by unfold IsRow; decide))
 refine ⟨o1.set 6 _, (K1.heldT h.res (by decide)).other (Ne.symm hne) 6 _, ⟨cl ++ [x.cs r], Al2.app (hcl.mono (fun c y hc => hc.keep KT)) (Al2.one rfl ⟨r, rfl, hr.keep KT⟩), ?_⟩, (h.fts.keep K1 (by decide) (by decide)).keep K2 (by decide) (by decide), K2.mapS (K1.mapS h.map), K2.own (K1.own h.jct (by decide)) (by decide), K2.own (K1.own h.rgs (by decide)) (by decide)⟩
 have e : (cl ++ [x.cs r]).flatten = cl.flatten ++ x.cs r := by simp
 rw [e, List.length_append]
 exact K2.own ho (by decide)
theorem CS.addPart {p : CP} {last : Int} {ev : Value} {E : List Ev} {F : List Ft} {ps : List Value} {w w1 : World} {fb fc m : Nat} (h : CS p last ev E F ps w) (hfv : p.fv = .slice (some ⟨fb, 0, none⟩) m fc) {j : Nat} {f : Ft} {q : Value} (hf : F[j]? = some f) (hp : ps[j]? = some q) {id : Int} {g cap k : Nat}
  (ho : w1.ownsRow p.D 2 1 (.slice (some ⟨g, 0, none⟩) k cap) (f.parts.length + 1) ((f.parts ++ [id]).map (Value.int .i64))) (hg : w.grownBy w1 q.ownBlock) (hw : q.ownBlock = some g ∨ w.heap.size ≤ g) :
  CS p last ev E (F.set j (f.add id)) (ps.set j (.slice (some ⟨g, 0, none⟩) k cap)) (w1.setCell ⟨fb, j * 5 + 2, none⟩ (.slice (some ⟨g, 0, none⟩) k cap)) := by
 have K1 : KeepX 2 w w1 := KeepX.grown (h.fts.parts j f q hf hp) hg
 have of1 := K1.own h.fts.own (by decide)
 rw [hfv] at of1
 obtain ⟨cur, hcur⟩ := own_block of1 (g := fb) rfl
 have K2 : KeepX 48 w1 (w1.setCell ⟨fb, j * 5 + 2, none⟩ (.slice (some ⟨g, 0, none⟩) k cap)) := KeepX.put hcur _ _
 have hft := h.fts
 rw [hfv] at hft
 refine ⟨K2.heldT (K1.heldT h.out (by decide)) (by decide), K2.heldT (K1.heldT h.res (by decide)) (by decide), K2.evs (K1.evs h.evs (by decide) (by unfold IsRow; decide)) (by decide) (by unfold IsRow; decide), ?_, K2.mapS (K1.mapS h.map), K2.own (K1.own h.jct (by decide)) (by decide), K2.own (K1.own h.rgs (by decide)) (by decide)⟩
 rw [hfv]
 exact hft.part hf hp ho hg hw rfl
end Go.Proofs.YtmopjhbfobmklaaGreatDoor
