/-
  Rows of structs that stand for elements by a relation: what is owned, what is read; blocks of rows and runs that stay. Without conditions.
-/
import Derived.Test.YtmopjhbfobmklaaGreatDoorMCo
import Derived.Laws.AppendOwnNone
import Derived.Lib.SliceRun
set_option maxRecDepth 100000
set_option maxHeartbeats 40000000
namespace Go.Proofs.YtmopjhbfobmklaaGreatDoor
open Go.RowKit Go.Joins
set_option linter.unusedVariables false
set_option linter.unusedSimpArgs false
def Al2 {α : Type} (R : List Value → α → Prop) (sz : Nat) : List (List Value) → List α → Prop
 | [], [] => True
 | c :: cs, x :: xs => (c.length = sz ∧ R c x) ∧ Al2 R sz cs xs
 | _, _ => False
theorem Al2.len {α : Type} {R : List Value → α → Prop} {sz : Nat} : ∀ {cs : List (List Value)} {xs : List α}, Al2 R sz cs xs → cs.length = xs.length
 | [], [], _ => rfl
 | _ :: cs, _ :: xs, h => by rw [List.length_cons, List.length_cons, Al2.len h.2]
 | [], _ :: _, h => h.elim
 | _ :: _, [], h => h.elim
theorem Al2.flat {α : Type} {R : List Value → α → Prop} {sz : Nat} : ∀ {cs : List (List Value)} {xs : List α}, Al2 R sz cs xs → cs.flatten.length = xs.length * sz
 | [], [], _ => by simp
 | c :: cs, x :: xs, h => by rw [List.flatten_cons, List.length_append, Al2.flat h.2, h.1.1, List.length_cons, Nat.succ_mul]; omega
 | [], _ :: _, h => h.elim
 | _ :: _, [], h => h.elim
theorem Al2.mono {α : Type} {R R' : List Value → α → Prop} {sz : Nat} (hR : ∀ c x, R c x → R' c x) : ∀ {cs : List (List Value)} {xs : List α}, Al2 R sz cs xs → Al2 R' sz cs xs
 | [], [], _ => trivial
 | _ :: _, _ :: _, h => ⟨⟨h.1.1, hR _ _ h.1.2⟩, Al2.mono hR h.2⟩
 | [], _ :: _, h => h.elim
 | _ :: _, [], h => h.elim
theorem Al2.app {α : Type} {R : List Value → α → Prop} {sz : Nat} : ∀ {cs ds : List (List Value)} {xs ys : List α}, Al2 R sz cs xs → Al2 R sz ds ys → Al2 R sz (cs ++ ds) (xs ++ ys)
 | [], _, [], _, _, h => h
 | _ :: _, _, _ :: _, _, h, k => ⟨h.1, Al2.app h.2 k⟩
 | [], _, _ :: _, _, h, _ => h.elim
 | _ :: _, _, [], _, h, _ => h.elim
theorem Al2.one {α : Type} {R : List Value → α → Prop} {sz : Nat} {c : List Value} {x : α} (hl : c.length = sz) (h : R c x) : Al2 R sz [c] [x] := ⟨⟨hl, h⟩, trivial⟩
theorem Al2.get {α : Type} {R : List Value → α → Prop} {sz : Nat} : ∀ {cs : List (List Value)} {xs : List α} {k : Nat} {x : α}, Al2 R sz cs xs → xs[k]? = some x →
  ∃ c, cs[k]? = some c ∧ c.length = sz ∧ R c x ∧ ∀ j, j < sz → cs.flatten[k * sz + j]? = c[j]?
 | [], [], k, x, _, hx => by simp at hx
 | c :: cs, y :: ys, 0, x, h, hx => by
  cases hx
  refine ⟨c, rfl, h.1.1, h.1.2, fun j hj => ?_⟩
  rw [List.flatten_cons, Nat.zero_mul, Nat.zero_add, List.getElem?_append_left (by rw [h.1.1]; exact hj)]
 | c :: cs, y :: ys, k + 1, x, h, hx => by
  obtain ⟨c', e1, e2, e3, e4⟩ := Al2.get h.2 (k := k) (by simpa using hx)
  refine ⟨c', by simpa using e1, e2, e3, fun j hj => ?_⟩
  rw [List.flatten_cons, List.getElem?_append_right (by rw [h.1.1, Nat.succ_mul]; omega), h.1.1, ← e4 j hj]
  congr 1
  rw [Nat.succ_mul]; omega
 | [], _ :: _, _, _, h, _ => h.elim
 | _ :: _, [], _, _, h, _ => h.elim
theorem Al2.split {α : Type} {R : List Value → α → Prop} {sz : Nat} : ∀ {cs : List (List Value)} {xs ys : List α}, Al2 R sz cs (xs ++ ys) → ∃ c1 c2, cs = c1 ++ c2 ∧ Al2 R sz c1 xs ∧ Al2 R sz c2 ys
 | cs, [], ys, h => ⟨[], cs, rfl, trivial, h⟩
 | c :: cs, x :: xs, ys, h => by
  obtain ⟨c1, c2, e, h1, h2⟩ := Al2.split (xs := xs) (ys := ys) h.2
  exact ⟨c :: c1, c2, by rw [e]; rfl, ⟨h.1, h1⟩, h2⟩
 | [], _ :: _, _, h => h.elim
theorem Al2.flatMap {α : Type} {f : α → List Value} {sz : Nat} : ∀ {cs : List (List Value)} {xs : List α}, Al2 (fun c x => c = f x) sz cs xs → cs.flatten = xs.flatMap f
 | [], [], _ => rfl
 | c :: cs, x :: xs, h => by rw [List.flatten_cons, List.flatMap_cons, h.1.2, Al2.flatMap h.2]
 | [], _ :: _, h => h.elim
 | _ :: _, [], h => h.elim
theorem Al2.ofFlat {α : Type} {f : α → List Value} {sz : Nat} (hf : ∀ x, (f x).length = sz) : ∀ (xs : List α), Al2 (fun c x => c = f x) sz (xs.map f) xs
 | [] => trivial
 | x :: xs => ⟨⟨hf x, rfl⟩, Al2.ofFlat hf xs⟩
theorem SeqAt.cells {α : Type} {w : World} {sz : Nat} {R : World → List Value → α → Prop} {A : Option Addr} {n c : Nat} {xs : List α} (h : SeqAt w sz R (.slice A n c) xs) :
  ∃ cs, Al2 (R w) sz cs xs ∧ (A = none → xs = []) ∧ ∀ ad, A = some ad → ∀ j u, cs.flatten[j]? = some u → w.cell? (ad.add j) = some u := by
 obtain ⟨A', c', e, h1, h2, h3⟩ := h
 cases e
 -- the lists are chosen by their places
 have key : ∀ (ys : List α) (m : Nat), (∀ k y, ys[k]? = some y → xs[m + k]? = some y) → ∃ cs, Al2 (R w) sz cs ys ∧ ∀ b o, A = some ⟨b, o, none⟩ → ∀ j u, cs.flatten[j]? = some u → w.cell? ⟨b, o + m * sz + j, none⟩ = some u := by
  intro ys
  induction ys with
  | nil => exact fun m _ => ⟨[], trivial, fun b o _ j u hu => by simp at hu⟩
  | cons y ys ih =>
   intro m hm
   obtain ⟨b, o, cl, eA, e2, e3, e4⟩ := h3 m y (hm 0 y rfl)
   obtain ⟨cs, hcs, hat⟩ := ih (m + 1) (fun k z hz => by have := hm (k + 1) z (by simpa using hz); rwa [show m + (k + 1) = m + 1 + k by omega] at this)
   refine ⟨cl :: cs, ⟨⟨e2, e4⟩, hcs⟩, fun b' o' eA' j u hu => ?_⟩
   rw [eA] at eA'
   cases eA'
   by_cases hj : j < sz
   ·rw [List.flatten_cons, List.getElem?_append_left (by rw [e2]; exact hj)] at hu
    exact e3 j u hu
   rw [List.flatten_cons, List.getElem?_append_right (by rw [e2]; omega), e2] at hu
   have := hat b o eA (j - sz) u hu
   rwa [show o + (m + 1) * sz + (j - sz) = o + m * sz + j by rw [Nat.succ_mul]; omega] at this
 obtain ⟨cs, hcs, hat⟩ := key xs 0 (fun k y hy => by rwa [Nat.zero_add])
 refine ⟨cs, hcs, fun hA => ?_, fun ad hA j u hu => ?_⟩
 ·cases xs with
  | nil => rfl
  | cons x r =>
   obtain ⟨b, o, cl, eA, _⟩ := h3 0 x rfl
   rw [hA] at eA
   cases eA
 cases xs with
 | nil =>
  cases cs with
  | nil => simp at hu
  | cons _ _ => exact hcs.elim
 | cons x r =>
  obtain ⟨b, o, cl, eA, _⟩ := h3 0 x rfl
  rw [hA] at eA
  cases eA
  have := hat b o hA j u hu
  rw [Nat.zero_mul, Nat.add_zero] at this
  rwa [Addr.add_lit]
def OwnS {α : Type} (w : World) (base : Nat) (ty : TypeId) (sz : Nat) (R : World → List Value → α → Prop) (v : Value) (xs : List α) : Prop :=
 ∃ cs, Al2 (R w) sz cs xs ∧ w.ownsRow base ty sz v xs.length cs.flatten
theorem OwnS.seq {α : Type} {w : World} {base : Nat} {ty : TypeId} {sz : Nat} {R : World → List Value → α → Prop} {v : Value} {xs : List α} (h : OwnS w base ty sz R v xs) (hz : 0 < sz) :
  ∃ A c, v = .slice A xs.length c ∧ xs.length ≤ c ∧ c ≤ maxLen ∧ ∀ k x, xs[k]? = some x → ∃ b o cs, A = some ⟨b, o, none⟩ ∧ ((∃ cur, w.heap[b]? = some (.cells cur ty (0, 0))) ∧ base ≤ b ∧ o = 0) ∧ cs.length = sz ∧ (∀ j u, cs[j]? = some u → w.cell? ⟨b, o + k * sz + j, none⟩ = some u) ∧ R w cs x := by
 obtain ⟨cs, h1, h2⟩ := h
 obtain ⟨A, c, e, hr, hn, hm, _⟩ := row_of_ownK h2
 refine ⟨A, c, e, hn, hm, fun k x hx => ?_⟩
 obtain ⟨cl, e1, e2, e3, e4⟩ := Al2.get h1 hx
 have hk : k < xs.length := (List.getElem?_eq_some_iff.1 hx).1
 rcases h2.2 with ⟨e0, e0'⟩ | ⟨g, cap, cur, e0, hb, hh, _⟩
 ·have hl := Al2.flat h1
  rw [e0'] at hl
  have h4 : 0 < xs.length * sz := Nat.mul_pos (by omega) hz
  simp at hl
  omega
 rw [e0] at e
 injection e with e5 e6 e7
 refine ⟨g, 0, cl, e5.symm, ⟨⟨cur, hh⟩, hb, rfl⟩, e2, fun j u hu => ?_, e3⟩
 have hj : j < sz := by have := (List.getElem?_eq_some_iff.1 hu).1; omega
 have := h2.cells (g := g) (by rw [e0]; rfl) (k * sz + j) u (by rw [e4 j hj]; exact hu)
 rw [Addr.add_lit] at this
 rw [Nat.zero_add] at this ⊢
 exact this
theorem OwnS.at {α : Type} {w : World} {base : Nat} {ty : TypeId} {sz : Nat} {R : World → List Value → α → Prop} {v : Value} {xs : List α} (h : OwnS w base ty sz R v xs) (hz : 0 < sz) : SeqAt w sz R v xs := by
 obtain ⟨A, c, h1, h2, h3, h4⟩ := h.seq hz
 refine ⟨A, c, h1, h2, h3, fun k x hx => ?_⟩
 obtain ⟨b, o, cs, e1, _, e2, e3, e4⟩ := h4 k x hx
 exact ⟨b, o, cs, e1, e2, e3, e4⟩
theorem OwnS.nil {α : Type} (w : World) (base : Nat) (ty : TypeId) (sz : Nat) (R : World → List Value → α → Prop) : OwnS w base ty sz R (.slice none 0 0) [] := ⟨[], trivial, World.ownsRow_nil _ _ _ _⟩
def SeqT {α : Type} (w : World) (ty : TypeId) (sz : Nat) (R : World → List Value → α → Prop) (v : Value) (xs : List α) : Prop :=
 ∃ A c, v = .slice A xs.length c ∧ xs.length ≤ c ∧ c ≤ maxLen ∧ ∀ k x, xs[k]? = some x → ∃ b o cs, A = some ⟨b, o, none⟩ ∧ (∃ cur, w.heap[b]? = some (.cells cur ty (0, 0))) ∧ cs.length = sz ∧ (∀ j u, cs[j]? = some u → w.cell? ⟨b, o + k * sz + j, none⟩ = some u) ∧ R w cs x
theorem SeqT.at {α : Type} {w : World} {ty : TypeId} {sz : Nat} {R : World → List Value → α → Prop} {v : Value} {xs : List α} (h : SeqT w ty sz R v xs) : SeqAt w sz R v xs := by
 obtain ⟨A, c, h1, h2, h3, h4⟩ := h
 refine ⟨A, c, h1, h2, h3, fun k x hx => ?_⟩
 obtain ⟨b, o, cs, e1, _, e2, e3, e4⟩ := h4 k x hx
 exact ⟨b, o, cs, e1, e2, e3, e4⟩
theorem OwnS.typed {α : Type} {w : World} {base : Nat} {ty : TypeId} {sz : Nat} {R : World → List Value → α → Prop} {v : Value} {xs : List α} (h : OwnS w base ty sz R v xs) (hz : 0 < sz) : SeqT w ty sz R v xs := by
 obtain ⟨A, c, h1, h2, h3, h4⟩ := h.seq hz
 refine ⟨A, c, h1, h2, h3, fun k x hx => ?_⟩
 obtain ⟨b, o, cs, e1, ⟨e5, _⟩, e2, e3, e4⟩ := h4 k x hx
 exact ⟨b, o, cs, e1, e5, e2, e3, e4⟩
def KeepS (S : TypeId → Prop) (w w' : World) : Prop := ∀ (g : Nat) (cs : Array Value) (t : TypeId), S t → w.heap[g]? = some (.cells cs t (0, 0)) → w'.heap[g]? = some (.cells cs t (0, 0))
theorem KeepS.refl {S : TypeId → Prop} (w : World) : KeepS S w w := fun _ _ _ _ h => h
theorem KeepS.trans {S : TypeId → Prop} {a b c : World} (h : KeepS S a b) (k : KeepS S b c) : KeepS S a c := fun g cs t h1 h2 => k g cs t h1 (h g cs t h1 h2)
theorem KeepS.ext {S : TypeId → Prop} {w w' : World} (hb : Below w.heap.size w w') : KeepS S w w' := fun g cs t _ h => (hb.block g (Array.getElem?_eq_some_iff.1 h).1).trans h
theorem KeepS.put {S : TypeId → Prop} {w : World} {b : Nat} {cs0 : Array Value} {ty : TypeId} (hb : w.heap[b]? = some (.cells cs0 ty (0, 0))) (hne : ¬ S ty) (i : Nat) (u : Value) : KeepS S w (w.setCell ⟨b, i, none⟩ u) := by
 intro g cs t ht h
 rw [Below.heap_setCell w ⟨b, i, none⟩ u g (fun e => ?_)]
 ·exact h
 have e : g = b := e
 subst e
 rw [hb] at h
 cases h
 exact hne ht
theorem KeepS.grown {S : TypeId → Prop} {w w' : World} {B : Nat} {ty : TypeId} {sz : Nat} {v : Value} {n : Nat} {xs : List Value} (ho : w.ownsRow B ty sz v n xs) (hne : ¬ S ty) (hg : w.grownBy w' v.ownBlock) : KeepS S w w' := by
 intro g cs t ht h
 refine (hg.block g (Array.getElem?_eq_some_iff.1 h).1 (fun e => ?_)).trans h
 obtain ⟨cur, h2⟩ := own_block ho e.symm
 rw [h2] at h
 cases h
 exact hne ht
def IsRun (t : TypeId) : Prop := t = 230
def IsRow (t : TypeId) : Prop := t = 164 ∨ t = 230
theorem KeepS.run {w w' : World} (h : KeepS IsRow w w') : KeepS IsRun w w' := fun g cs t ht => h g cs t (.inr ht)
abbrev KeepT (w w' : World) : Prop := KeepS IsRow w w'
theorem SeqT.keep {α : Type} {S : TypeId → Prop} {w w' : World} {ty : TypeId} {sz : Nat} {R : World → List Value → α → Prop} {v : Value} {xs : List α} (h : SeqT w ty sz R v xs) (ht : S ty) (hk : KeepS S w w') (hR : ∀ cs x, R w cs x → R w' cs x) : SeqT w' ty sz R v xs := by
 obtain ⟨A, c, h1, h2, h3, h4⟩ := h
 refine ⟨A, c, h1, h2, h3, fun k x hx => ?_⟩
 obtain ⟨b, o, cs, e1, ⟨cur, e5⟩, e2, e3, e4⟩ := h4 k x hx
 have e6 := hk b cur ty ht e5
 exact ⟨b, o, cs, e1, ⟨cur, e6⟩, e2, fun j u hu => (World.cell?_of_block (w := w) (e6.trans e5.symm)).trans (e3 j u hu), hR cs x e4⟩
abbrev RunsT (w : World) (v : Value) (xs : List Rn) : Prop := SeqT w 230 5 (Flat Rn.cs) v xs
def RowT (w : World) (cs : List Value) (r : List Rn) : Prop := ∃ v, cs = [v] ∧ RunsT w v r
abbrev RowsT (w : World) (v : Value) (rows : List (List Rn)) : Prop := SeqT w 164 1 RowT v rows
def EvT2 (w : World) (cs : List Value) (x : Ev) : Prop := ∃ r, cs = x.cs r ∧ RowsT w r x.rows
theorem RunsT.keep {w w' : World} {v : Value} {xs : List Rn} (h : RunsT w v xs) (hk : KeepS IsRun w w') : RunsT w' v xs := SeqT.keep (S := IsRun) h rfl hk (fun _ _ h => h)
theorem RowT.keep {w w' : World} {cs : List Value} {r : List Rn} (h : RowT w cs r) (hk : KeepS IsRun w w') : RowT w' cs r := by
 obtain ⟨v, e, h⟩ := h
 exact ⟨v, e, h.keep hk⟩
theorem RowsT.keep {w w' : World} {v : Value} {rows : List (List Rn)} (h : RowsT w v rows) (hk : KeepT w w') : RowsT w' v rows := SeqT.keep (S := IsRow) h (.inl rfl) hk (fun _ _ h => h.keep hk.run)
theorem EvT2.keep {w w' : World} {cs : List Value} {x : Ev} (h : EvT2 w cs x) (hk : KeepT w w') : EvT2 w' cs x := by
 obtain ⟨r, e, h⟩ := h
 exact ⟨r, e, h.keep hk⟩
theorem RowT.c {w : World} {cs : List Value} {r : List Rn} (h : RowT w cs r) : RowC w cs r := by
 obtain ⟨v, e, h⟩ := h
 exact ⟨v, e, h.at⟩
theorem RowsT.r {w : World} {v : Value} {rows : List (List Rn)} (h : RowsT w v rows) : RowsAt w v rows := (SeqT.at h).mono (fun _ _ h => h.c)
theorem EvT2.c {w : World} {cs : List Value} {x : Ev} (h : EvT2 w cs x) : EvC w cs x := by
 obtain ⟨r, e, h⟩ := h
 exact ⟨r, e, h.r⟩
end Go.Proofs.YtmopjhbfobmklaaGreatDoor
