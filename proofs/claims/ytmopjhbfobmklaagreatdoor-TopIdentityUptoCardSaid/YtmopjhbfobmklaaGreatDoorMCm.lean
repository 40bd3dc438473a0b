/-
  Documents in memory, names, regions. The conditions of the contracts are their hypotheses.
-/
import Derived.Test.YtmopjhbfobmklaaGreatDoorMBa
import Derived.Test.YtmopjhbfobmklaaGreatDoorChecked
import Derived.Deep.QuietTactic
import Derived.BigQuiet
set_option maxRecDepth 100000
set_option maxHeartbeats 40000000
namespace Go.Proofs.YtmopjhbfobmklaaGreatDoor
open Go.RowKit Go.Joins
set_option linter.unusedVariables false
set_option linter.unusedSimpArgs false
structure Rn where
 text : List UInt8
 col : Int
 it : Bool
 un : Bool
 ruby : List UInt8
structure Ev where
 id : Int
 i : Int
 o : Int
 reg : List UInt8
 kind : Int
 spk : List UInt8
 rows : List (List Rn)
structure Rg where
 name : List UInt8
 top : Int
 hei : Int
 lef : Int
 wid : Int
 ali : Int
 bot : Bool
structure Cm where
 id : Int
 ev : Int
 fr : Int
 til : Int
 au : List UInt8
 text : List UInt8
 don : Bool
 los : Bool
structure Dc where
 title : List UInt8
 lang : List UInt8
 rate : Int
 drop : Bool
 last : Int
 regs : List Rg
 evs : List Ev
 cms : List Cm
structure Rd where
 reel : List UInt8
 doc : Dc
structure Ct where
 num : Int
 reel : List UInt8
 src : Int
 i : Int
 o : Int
 sn : Int
 sd : Int
structure Lst where
 title : List UInt8
 rate : Int
 drop : Bool
 cuts : List Ct
def Rn.cs (x : Rn) : List Value := [.string (sB x.text), .int .u8 x.col, .bool x.it, .bool x.un, .string (sB x.ruby)]
def Rn.v (x : Rn) : Value := .agg #[.string (sB x.text), .int .u8 x.col, .bool x.it, .bool x.un, .string (sB x.ruby)]
def Rg.cs (x : Rg) : List Value := [.string (sB x.name), .int .i64 x.top, .int .i64 x.hei, .int .i64 x.lef, .int .i64 x.wid, .int .u8 x.ali, .bool x.bot]
def Rg.v (x : Rg) : Value := .agg #[.string (sB x.name), .int .i64 x.top, .int .i64 x.hei, .int .i64 x.lef, .int .i64 x.wid, .int .u8 x.ali, .bool x.bot]
def Cm.cs (x : Cm) : List Value := [.int .i64 x.id, .int .i64 x.ev, .int .i64 x.fr, .int .i64 x.til, .string (sB x.au), .string (sB x.text), .bool x.don, .bool x.los]
def Cm.v (x : Cm) : Value := .agg #[.int .i64 x.id, .int .i64 x.ev, .int .i64 x.fr, .int .i64 x.til, .string (sB x.au), .string (sB x.text), .bool x.don, .bool x.los]
def Ct.cs (x : Ct) : List Value := [.int .i64 x.num, .string (sB x.reel), .int .i64 x.src, .int .i64 x.i, .int .i64 x.o, .int .i64 x.sn, .int .i64 x.sd]
def Ct.v (x : Ct) : Value := .agg #[.int .i64 x.num, .string (sB x.reel), .int .i64 x.src, .int .i64 x.i, .int .i64 x.o, .int .i64 x.sn, .int .i64 x.sd]
def Ev.cs (x : Ev) (r : Value) : List Value := [.int .i64 x.id, .int .i64 x.i, .int .i64 x.o, .string (sB x.reg), .int .u8 x.kind, .string (sB x.spk), r]
def Ev.v (x : Ev) (r : Value) : Value := .agg #[.int .i64 x.id, .int .i64 x.i, .int .i64 x.o, .string (sB x.reg), .int .u8 x.kind, .string (sB x.spk), r]
def Dc.cs (x : Dc) (r e c : Value) : List Value := [.string (sB x.title), .string (sB x.lang), .int .u8 x.rate, .bool x.drop, .int .i64 x.last, r, e, c]
def Dc.v (x : Dc) (r e c : Value) : Value := .agg #[.string (sB x.title), .string (sB x.lang), .int .u8 x.rate, .bool x.drop, .int .i64 x.last, r, e, c]
def Lst.cs (x : Lst) (c : Value) : List Value := [.string (sB x.title), .int .u8 x.rate, .bool x.drop, c]
def Lst.v (x : Lst) (c : Value) : Value := .agg #[.string (sB x.title), .int .u8 x.rate, .bool x.drop, c]
def putL : List Value → Nat → List Value → List Value
 | cs, _, [] => cs
 | cs, o, v :: r => putL (cs.set o v) (o + 1) r
theorem Held.puts {w : World} {G : Nat} {cs : List Value} (h : Held w G cs) : ∀ (vs : List Value) (o : Nat), Held (w.setCells G o vs) G (putL cs o vs) := by
 intro vs
 induction vs generalizing w cs with
 | nil => intro o; exact h
 | cons v r ih => intro o; exact ih (h.set o v) (o + 1)
theorem putL_get : ∀ (vs cs : List Value) (o j : Nat), o + vs.length ≤ cs.length → (putL cs o vs)[j]? = if o ≤ j ∧ j < o + vs.length then vs[j - o]? else cs[j]?
 | [], cs, o, j, h => by
  unfold putL
  rw [if_neg (by simp only [List.length_nil]; omega)]
 | v :: r, cs, o, j, h => by
  rw [List.length_cons] at h
  unfold putL
  rw [putL_get r (cs.set o v) (o + 1) j (by rw [List.length_set]; omega)]
  by_cases h1 : o + 1 ≤ j ∧ j < o + 1 + r.length
  ·rw [if_pos h1, if_pos (by rw [List.length_cons]; omega), show j - o = (j - (o + 1)) + 1 by omega]
   rfl
  rw [if_neg h1]
  by_cases h2 : j = o
  ·subst h2
   rw [if_pos (by rw [List.length_cons]; omega), Nat.sub_self, List.getElem?_set_self (by omega)]
   rfl
  rw [if_neg (by rw [List.length_cons]; omega), List.getElem?_set_ne (Ne.symm h2)]
theorem Held.all {w : World} {G : Nat} {cs : List Value} (h : Held w G cs) (vs : List Value) (hl : vs.length = cs.length) : Held (w.setCells G 0 vs) G vs := by
 have e : putL cs 0 vs = vs := by
  refine List.ext_getElem? fun j => ?_
  rw [putL_get vs cs 0 j (by omega)]
  by_cases hj : j < vs.length
  ·rw [if_pos ⟨Nat.zero_le _, by omega⟩, Nat.sub_zero]
  rw [if_neg (by omega), List.getElem?_eq_none (by omega), List.getElem?_eq_none (by omega)]
 have := h.puts vs 0
 rwa [e] at this
theorem Below.all {B G : Nat} (hb : B ≤ G) : ∀ (vs : List Value) (o : Nat) {a w : World}, Below B a w → Below B a (w.setCells G o vs)
 | [], _, _, _, h => h
 | v :: r, o, _, _, h => Below.all hb r (o + 1) (h.setCell (p := ⟨G, o, none⟩) hb v)
theorem Held.far {w : World} {g g' : Nat} {cs : List Value} (h : Held w g cs) (hne : g ≠ g') : ∀ (vs : List Value) (o : Nat), Held (w.setCells g' o vs) g cs := by
 intro vs
 induction vs generalizing w with
 | nil => intro o; exact h
 | cons v r ih => intro o; exact ih (h.other hne o v) (o + 1)
theorem Below.more' (w : World) (o : Obj) : Below w.heap.size w (w.alloc o) := (Below.refl _ _).alloc (Nat.le_refl _) _
def SeqAt {α : Type} (w : World) (sz : Nat) (R : World → List Value → α → Prop) (v : Value) (xs : List α) : Prop :=
 ∃ A c, v = .slice A xs.length c ∧ xs.length ≤ c ∧ c ≤ maxLen ∧ ∀ k x, xs[k]? = some x → ∃ b o cs, A = some ⟨b, o, none⟩ ∧ cs.length = sz ∧ (∀ j u, cs[j]? = some u → w.cell? ⟨b, o + k * sz + j, none⟩ = some u) ∧ R w cs x
def Stays {α : Type} (R : World → List Value → α → Prop) : Prop := ∀ w w' cs x, Below w.heap.size w w' → R w cs x → R w' cs x
theorem SeqAt.ext {α : Type} {w w' : World} {sz : Nat} {R : World → List Value → α → Prop} {v : Value} {xs : List α} (h : SeqAt w sz R v xs) (hR : Stays R) (hb : Below w.heap.size w w') : SeqAt w' sz R v xs := by
 obtain ⟨A, c, h1, h2, h3, h4⟩ := h
 refine ⟨A, c, h1, h2, h3, fun k x hx => ?_⟩
 obtain ⟨b, o, cs, e1, e2, e3, e4⟩ := h4 k x hx
 exact ⟨b, o, cs, e1, e2, fun j u hu => (hb.cell (World.block_lt_of_cell? w _ (e3 j u hu))).trans (e3 j u hu), hR w w' cs x hb e4⟩
theorem SeqAt.mono {α : Type} {w : World} {sz : Nat} {R R' : World → List Value → α → Prop} {v : Value} {xs : List α} (h : SeqAt w sz R v xs) (hR : ∀ cs x, R w cs x → R' w cs x) : SeqAt w sz R' v xs := by
 obtain ⟨A, c, h1, h2, h3, h4⟩ := h
 refine ⟨A, c, h1, h2, h3, fun k x hx => ?_⟩
 obtain ⟨b, o, cs, e1, e2, e3, e4⟩ := h4 k x hx
 exact ⟨b, o, cs, e1, e2, e3, hR cs x e4⟩
theorem SeqAt.get {α : Type} {w : World} {sz : Nat} {R : World → List Value → α → Prop} {A : Option Addr} {n c : Nat} {xs : List α} (h : SeqAt w sz R (.slice A n c) xs) {k : Nat} {x : α} (hx : xs[k]? = some x) :
  ∃ b o cs, A = some ⟨b, o, none⟩ ∧ cs.length = sz ∧ (∀ j u, cs[j]? = some u → w.cell? ⟨b, o + k * sz + j, none⟩ = some u) ∧ R w cs x := by
 obtain ⟨A', c', h1, h2, h3, h4⟩ := h
 cases h1
 exact h4 k x hx
theorem SeqAt.len {α : Type} {w : World} {sz : Nat} {R : World → List Value → α → Prop} {A : Option Addr} {n c : Nat} {xs : List α} (h : SeqAt w sz R (.slice A n c) xs) : n = xs.length ∧ xs.length ≤ c ∧ c ≤ maxLen := by
 obtain ⟨A', c', h1, h2, h3, h4⟩ := h
 cases h1
 exact ⟨rfl, h2, h3⟩
theorem SeqAt.form {α : Type} {w : World} {sz : Nat} {R : World → List Value → α → Prop} {v : Value} {xs : List α} (h : SeqAt w sz R v xs) : ∃ A c, v = .slice A xs.length c := by
 obtain ⟨A, c, h1, _⟩ := h
 exact ⟨A, c, h1⟩
theorem SeqAt.nil {α : Type} (w : World) (sz : Nat) (R : World → List Value → α → Prop) : SeqAt w sz R (.slice none 0 0) [] := ⟨none, 0, rfl, Nat.le_refl _, Nat.zero_le _, fun k x h => by simp at h⟩
def Flat {α : Type} (f : α → List Value) : World → List Value → α → Prop := fun _ cs x => cs = f x
theorem Flat.stays {α : Type} (f : α → List Value) : Stays (Flat f) := fun _ _ _ _ _ h => h
abbrev RunsAt (w : World) (v : Value) (xs : List Rn) : Prop := SeqAt w 5 (Flat Rn.cs) v xs
abbrev RegsAt (w : World) (v : Value) (xs : List Rg) : Prop := SeqAt w 7 (Flat Rg.cs) v xs
abbrev CmsAt (w : World) (v : Value) (xs : List Cm) : Prop := SeqAt w 8 (Flat Cm.cs) v xs
abbrev CutsAt (w : World) (v : Value) (xs : List Ct) : Prop := SeqAt w 7 (Flat Ct.cs) v xs
def RowC (w : World) (cs : List Value) (r : List Rn) : Prop := ∃ v, cs = [v] ∧ RunsAt w v r
theorem RowC.stays : Stays RowC := fun _ _ _ _ hb ⟨v, h1, h2⟩ => ⟨v, h1, h2.ext (Flat.stays _) hb⟩
abbrev RowsAt (w : World) (v : Value) (rows : List (List Rn)) : Prop := SeqAt w 1 RowC v rows
def EvC (w : World) (cs : List Value) (x : Ev) : Prop := ∃ r, cs = x.cs r ∧ RowsAt w r x.rows
theorem EvC.stays : Stays EvC := fun _ _ _ _ hb ⟨v, h1, h2⟩ => ⟨v, h1, h2.ext RowC.stays hb⟩
abbrev EvsAt (w : World) (v : Value) (xs : List Ev) : Prop := SeqAt w 7 EvC v xs
structure DocAt (w : World) (d : Dc) (r e c : Value) : Prop where
 regs : RegsAt w r d.regs
 evs : EvsAt w e d.evs
 cms : CmsAt w c d.cms
theorem DocAt.ext {w w' : World} {d : Dc} {r e c : Value} (h : DocAt w d r e c) (hb : Below w.heap.size w w') : DocAt w' d r e c :=
 ⟨h.regs.ext (Flat.stays _) hb, h.evs.ext EvC.stays hb, h.cms.ext (Flat.stays _) hb⟩
def RdC (w : World) (cs : List Value) (x : Rd) : Prop := ∃ r e c, cs = .string (sB x.reel) :: x.doc.cs r e c ∧ DocAt w x.doc r e c
theorem RdC.stays : Stays RdC := fun _ _ _ _ hb ⟨r, e, c, h1, h2⟩ => ⟨r, e, c, h1, h2.ext hb⟩
abbrev RdsAt (w : World) (v : Value) (xs : List Rd) : Prop := SeqAt w 9 RdC v xs
theorem RunsAt.get {w : World} {A : Option Addr} {n c : Nat} {xs : List Rn} (h : RunsAt w (.slice A n c) xs) {k : Nat} {x : Rn} (hx : xs[k]? = some x) :
  ∃ b o, A = some ⟨b, o, none⟩ ∧ w.cell? ⟨b, o + k * 5, none⟩ = some (.string (sB x.text)) ∧ w.cell? ⟨b, o + k * 5 + 1, none⟩ = some (.int .u8 x.col) ∧ w.cell? ⟨b, o + k * 5 + 2, none⟩ = some (.bool x.it) ∧ w.cell? ⟨b, o + k * 5 + 3, none⟩ = some (.bool x.un) ∧ w.cell? ⟨b, o + k * 5 + 4, none⟩ = some (.string (sB x.ruby)) := by
 obtain ⟨b, o, cs, e1, _, e3, rfl⟩ := SeqAt.get h hx
 exact ⟨b, o, e1, e3 0 _ rfl, e3 1 _ rfl, e3 2 _ rfl, e3 3 _ rfl, e3 4 _ rfl⟩
theorem RegsAt.get {w : World} {A : Option Addr} {n c : Nat} {xs : List Rg} (h : RegsAt w (.slice A n c) xs) {k : Nat} {x : Rg} (hx : xs[k]? = some x) :
  ∃ b o, A = some ⟨b, o, none⟩ ∧ w.cell? ⟨b, o + k * 7, none⟩ = some (.string (sB x.name)) ∧ w.cell? ⟨b, o + k * 7 + 1, none⟩ = some (.int .i64 x.top) ∧ w.cell? ⟨b, o + k * 7 + 2, none⟩ = some (.int .i64 x.hei) ∧ w.cell? ⟨b, o + k * 7 + 3, none⟩ = some (.int .i64 x.lef) ∧ w.cell? ⟨b, o + k * 7 + 4, none⟩ = some (.int .i64 x.wid) ∧ w.cell? ⟨b, o + k * 7 + 5, none⟩ = some (.int .u8 x.ali) ∧ w.cell? ⟨b, o + k * 7 + 6, none⟩ = some (.bool x.bot) := by
 obtain ⟨b, o, cs, e1, _, e3, rfl⟩ := SeqAt.get h hx
 exact ⟨b, o, e1, e3 0 _ rfl, e3 1 _ rfl, e3 2 _ rfl, e3 3 _ rfl, e3 4 _ rfl, e3 5 _ rfl, e3 6 _ rfl⟩
theorem CmsAt.get {w : World} {A : Option Addr} {n c : Nat} {xs : List Cm} (h : CmsAt w (.slice A n c) xs) {k : Nat} {x : Cm} (hx : xs[k]? = some x) :
  ∃ b o, A = some ⟨b, o, none⟩ ∧ w.cell? ⟨b, o + k * 8, none⟩ = some (.int .i64 x.id) ∧ w.cell? ⟨b, o + k * 8 + 1, none⟩ = some (.int .i64 x.ev) ∧ w.cell? ⟨b, o + k * 8 + 2, none⟩ = some (.int .i64 x.fr) ∧ w.cell? ⟨b, o + k * 8 + 3, none⟩ = some (.int .i64 x.til) ∧ w.cell? ⟨b, o + k * 8 + 4, none⟩ = some (.string (sB x.au)) ∧ w.cell? ⟨b, o + k * 8 + 5, none⟩ = some (.string (sB x.text)) ∧ w.cell? ⟨b, o + k * 8 + 6, none⟩ = some (.bool x.don) ∧ w.cell? ⟨b, o + k * 8 + 7, none⟩ = some (.bool x.los) := by
 obtain ⟨b, o, cs, e1, _, e3, rfl⟩ := SeqAt.get h hx
 exact ⟨b, o, e1, e3 0 _ rfl, e3 1 _ rfl, e3 2 _ rfl, e3 3 _ rfl, e3 4 _ rfl, e3 5 _ rfl, e3 6 _ rfl, e3 7 _ rfl⟩
theorem CutsAt.get {w : World} {A : Option Addr} {n c : Nat} {xs : List Ct} (h : CutsAt w (.slice A n c) xs) {k : Nat} {x : Ct} (hx : xs[k]? = some x) :
  ∃ b o, A = some ⟨b, o, none⟩ ∧ w.cell? ⟨b, o + k * 7, none⟩ = some (.int .i64 x.num) ∧ w.cell? ⟨b, o + k * 7 + 1, none⟩ = some (.string (sB x.reel)) ∧ w.cell? ⟨b, o + k * 7 + 2, none⟩ = some (.int .i64 x.src) ∧ w.cell? ⟨b, o + k * 7 + 3, none⟩ = some (.int .i64 x.i) ∧ w.cell? ⟨b, o + k * 7 + 4, none⟩ = some (.int .i64 x.o) ∧ w.cell? ⟨b, o + k * 7 + 5, none⟩ = some (.int .i64 x.sn) ∧ w.cell? ⟨b, o + k * 7 + 6, none⟩ = some (.int .i64 x.sd) := by
 obtain ⟨b, o, cs, e1, _, e3, rfl⟩ := SeqAt.get h hx
 exact ⟨b, o, e1, e3 0 _ rfl, e3 1 _ rfl, e3 2 _ rfl, e3 3 _ rfl, e3 4 _ rfl, e3 5 _ rfl, e3 6 _ rfl⟩
theorem RowsAt.get {w : World} {A : Option Addr} {n c : Nat} {xs : List (List Rn)} (h : RowsAt w (.slice A n c) xs) {k : Nat} {x : List Rn} (hx : xs[k]? = some x) :
  ∃ b o v, A = some ⟨b, o, none⟩ ∧ w.cell? ⟨b, o + k, none⟩ = some v ∧ RunsAt w v x := by
 obtain ⟨b, o, cs, e1, _, e3, v, rfl, e4⟩ := SeqAt.get h hx
 exact ⟨b, o, v, e1, by have := e3 0 v rfl; rwa [Nat.mul_one] at this, e4⟩
theorem EvsAt.get {w : World} {A : Option Addr} {n c : Nat} {xs : List Ev} (h : EvsAt w (.slice A n c) xs) {k : Nat} {x : Ev} (hx : xs[k]? = some x) :
  ∃ b o v, A = some ⟨b, o, none⟩ ∧ (w.cell? ⟨b, o + k * 7, none⟩ = some (.int .i64 x.id) ∧ w.cell? ⟨b, o + k * 7 + 1, none⟩ = some (.int .i64 x.i) ∧ w.cell? ⟨b, o + k * 7 + 2, none⟩ = some (.int .i64 x.o) ∧ w.cell? ⟨b, o + k * 7 + 3, none⟩ = some (.string (sB x.reg)) ∧ w.cell? ⟨b, o + k * 7 + 4, none⟩ = some (.int .u8 x.kind) ∧ w.cell? ⟨b, o + k * 7 + 5, none⟩ = some (.string (sB x.spk)) ∧ w.cell? ⟨b, o + k * 7 + 6, none⟩ = some v) ∧ RowsAt w v x.rows := by
 obtain ⟨b, o, cs, e1, _, e3, v, rfl, e4⟩ := SeqAt.get h hx
 exact ⟨b, o, v, e1, ⟨e3 0 _ rfl, e3 1 _ rfl, e3 2 _ rfl, e3 3 _ rfl, e3 4 _ rfl, e3 5 _ rfl, e3 6 _ rfl⟩, e4⟩
theorem RdsAt.get {w : World} {A : Option Addr} {n c : Nat} {xs : List Rd} (h : RdsAt w (.slice A n c) xs) {k : Nat} {x : Rd} (hx : xs[k]? = some x) :
  ∃ b o r e q, A = some ⟨b, o, none⟩ ∧ (w.cell? ⟨b, o + k * 9, none⟩ = some (.string (sB x.reel)) ∧ w.cell? ⟨b, o + k * 9 + 1, none⟩ = some (.string (sB x.doc.title)) ∧ w.cell? ⟨b, o + k * 9 + 2, none⟩ = some (.string (sB x.doc.lang)) ∧ w.cell? ⟨b, o + k * 9 + 3, none⟩ = some (.int .u8 x.doc.rate) ∧ w.cell? ⟨b, o + k * 9 + 4, none⟩ = some (.bool x.doc.drop) ∧ w.cell? ⟨b, o + k * 9 + 5, none⟩ = some (.int .i64 x.doc.last) ∧ w.cell? ⟨b, o + k * 9 + 6, none⟩ = some r ∧ w.cell? ⟨b, o + k * 9 + 7, none⟩ = some e ∧ w.cell? ⟨b, o + k * 9 + 8, none⟩ = some q) ∧ DocAt w x.doc r e q := by
 obtain ⟨b, o, cs, e1, _, e3, r, e, q, rfl, e4⟩ := SeqAt.get h hx
 exact ⟨b, o, r, e, q, e1, ⟨e3 0 _ rfl, e3 1 _ rfl, e3 2 _ rfl, e3 3 _ rfl, e3 4 _ rfl, e3 5 _ rfl, e3 6 _ rfl, e3 7 _ rfl, e3 8 _ rfl⟩, e4⟩
def bt (s : ByteArray) (j : Nat) : UInt8 := s.data.toList.getD j 0
theorem idx_str {s : ByteArray} {x : Int} {j : Nat} (hx : x = j) (hj : j < s.size) (w : World) : (Instr.index 9 (.string s) (.int .i64 x)).run Tryz.prog w = .ok (.int .u8 (bt s j).toNat) w := by
 subst hx
 have e : bt s j = s[j] := by
  unfold bt
  rw [List.getD_eq_getElem?_getD, List.getElem?_eq_getElem (by simpa using hj)]
  rfl
 rw [e]
 simp [go_sem, hj]
theorem bt_get {s : ByteArray} {j : Nat} (hj : j < s.size) : s.data.toList[j]? = some (bt s j) := by
 unfold bt
 rw [List.getD_eq_getElem?_getD, List.getElem?_eq_getElem (by simpa using hj)]
 rfl
def nmC (b : UInt8) : Bool := (decide (65 ≤ b.toNat) && decide (b.toNat ≤ 90)) || (decide (48 ≤ b.toNat) && decide (b.toNat ≤ 57)) || decide (b.toNat = 95) || decide (b.toNat = 45)
def nmH (l : List UInt8) : Bool := match l with
 | [] => false
 | b :: _ => decide (l.length ≤ 16) && decide (65 ≤ b.toNat) && decide (b.toNat ≤ 90)
def nmB (l : List UInt8) : Bool := nmH l && l.all nmC
theorem nmH_eq {s : ByteArray} (h : 0 < s.size) : nmH s.data.toList = (decide (s.size ≤ 16) && decide (65 ≤ (bt s 0).toNat) && decide ((bt s 0).toNat ≤ 90)) := by
 have h0 := bt_get h
 have hl : s.data.toList.length = s.size := by simp
 match hs : s.data.toList, h0 with
 | b :: r, h0 =>
  simp at h0
  rw [hs] at hl
  rw [nmH, hl, h0]
theorem all_take_succ {l : List UInt8} {k : Nat} {b : UInt8} {p : UInt8 → Bool} (hk : l[k]? = some b) : (l.take (k + 1)).all p = ((l.take k).all p && p b) := by
 rw [List.take_add_one, hk]
 simp
theorem name_no (s : ByteArray) (w : World) (h : nmH s.data.toList = false) :
  Calls Tryz.prog 52 #[.string s] w fun e w' => e = .returned (.bool false) ∧ w = w' := by
 by_cases h0 : 0 < s.size
 ·rw [nmH_eq h0] at h
  have g0 : ¬ (s.size : Int) < 1 := by omega
  have ix := fun w' => idx_str (s := s) (x := 0) (j := 0) rfl h0 w'
  by_cases h1 : 16 < s.size
  ·have g1 : (16 : Int) < s.size := by omega
   clear h
   go_enter Tryz.func52, Tryz.ntmps52
   go_wp2_with fail
   go_ret
   exact ⟨rfl, rfl⟩
  have g1 : ¬ (16 : Int) < s.size := by omega
  by_cases h2 : (bt s 0).toNat < 65
  ·have g2 : ((bt s 0).toNat : Int) < 65 := by omega
   clear h
   go_enter Tryz.func52, Tryz.ntmps52
   go_wp2_with fail
   go_ret
   exact ⟨rfl, rfl⟩
  have g2 : ¬ ((bt s 0).toNat : Int) < 65 := by omega
  have g3 : (90 : Int) < ((bt s 0).toNat : Int) := by
   simp only [Bool.and_eq_false_iff, decide_eq_false_iff_not] at h
   omega
  clear h
  go_enter Tryz.func52, Tryz.ntmps52
  go_wp2_with fail
  go_ret
  exact ⟨rfl, rfl⟩
 have g0 : (s.size : Int) < 1 := by omega
 clear h
 go_enter Tryz.func52, Tryz.ntmps52
 go_wp2_with fail
 go_ret
 exact ⟨rfl, rfl⟩
theorem nmC_iff (b : UInt8) : nmC b = true ↔ (65 ≤ b.toNat ∧ b.toNat ≤ 90) ∨ (48 ≤ b.toNat ∧ b.toNat ≤ 57) ∨ b.toNat = 95 ∨ b.toNat = 45 := by
 unfold nmC
 simp only [Bool.or_eq_true, Bool.and_eq_true, decide_eq_true_eq]
 omega
theorem name_yes (s : ByteArray) (w : World) (h : nmH s.data.toList = true) :
  Calls Tryz.prog 52 #[.string s] w fun e w' => e = .returned (.bool (s.data.toList.all nmC)) ∧ w = w' := by
 have h0 : 0 < s.size := by
  by_cases h0 : 0 < s.size
  ·exact h0
  have : s.data.toList = [] := List.eq_nil_of_length_eq_zero (by
   have : s.data.toList.length = s.size := by simp
   omega)
  rw [this] at h
  cases h
 rw [nmH_eq h0] at h
 simp only [Bool.and_eq_true, decide_eq_true_eq] at h
 obtain ⟨⟨h1, h2⟩, h3⟩ := h
 have g0 : ¬ (s.size : Int) < 1 := by omega
 have g1 : ¬ (16 : Int) < s.size := by omega
 have g2 : ¬ ((bt s 0).toNat : Int) < 65 := by omega
 have g3 : ¬ (90 : Int) < ((bt s 0).toNat : Int) := by omega
 have ix := fun w' => idx_str (s := s) (x := 0) (j := 0) rfl h0 w'
 obtain ⟨l, hl⟩ : ∃ l, l = s.data.toList := ⟨_, rfl⟩
 have HL := ι hl
 have HLN := ι (show l.length = s.size by rw [hl]; simp)
 rw [← hl]
 clear hl
 go_enter Tryz.func52, Tryz.ntmps52
 go_wp2_with fail
 clear ix
 go_loop [25] (fun i => ∃ k : Nat, k ≤ s.size ∧ i = .int .i64 k ∧ Hid ((l.take k).all nmC = true)) (fun i => s.size - (intOf i).toNat)
 case atStart => exact ⟨0, by omega, rfl, ι (by simp)⟩
 case round =>
 obtain ⟨k, hk, rfl, HA⟩ := hrel
 by_cases hlt : k < s.size
 ·have hlt2 : (k : Int) < (s.size : Int) := by omega
  have ix := fun w' => idx_str (s := s) (x := (k : Int)) (j := k) rfl hlt w'
  have hb8 := (bt s k).toNat_lt
  have HB := ι (show l[k]? = some (bt s k) by rw [HL.out]; exact bt_get hlt)
  generalize bt s k = b at *
  have HC := ι (nmC_iff b)
  rcases (show (65 ≤ b.toNat ∧ b.toNat ≤ 90) ∨ (48 ≤ b.toNat ∧ b.toNat ≤ 57) ∨ (b.toNat = 95) ∨ (b.toNat = 45) ∨ (b.toNat < 48 ∧ b.toNat ≠ 45) ∨ (57 < b.toNat ∧ b.toNat < 65) ∨ (90 < b.toNat ∧ b.toNat ≠ 95) by omega) with hc | hc | hc | hc | hc | hc | hc
  ·have i0 : (65 : Int) ≤ (b.toNat : Int) := by omega
   have i1 : (b.toNat : Int) ≤ 90 := by omega
   have HS := ι (show (l.take (k + 1)).all nmC = true by rw [all_take_succ HB.out, HA.out, HC.out.2 (by omega)]; rfl)
   clear hc
   go_wp2_with fail
   go_round
   case rel => exact ⟨k + 1, by omega, by go_num, HS⟩
   case measure => simp [intOf]; omega
  ·have i0 : (48 : Int) ≤ (b.toNat : Int) := by omega
   have i1 : (b.toNat : Int) ≤ 57 := by omega
   have HS := ι (show (l.take (k + 1)).all nmC = true by rw [all_take_succ HB.out, HA.out, HC.out.2 (by omega)]; rfl)
   clear hc
   go_wp2_with fail
   go_round
   case rel => exact ⟨k + 1, by omega, by go_num, HS⟩
   case measure => simp [intOf]; omega
  ·have i0 : (90 : Int) < (b.toNat : Int) := by omega
   have t0 : ((b.toNat : Int) != 95) = false := by simp; omega
   have HS := ι (show (l.take (k + 1)).all nmC = true by rw [all_take_succ HB.out, HA.out, HC.out.2 (by omega)]; rfl)
   clear hc
   go_wp2_with fail
   go_round
   case rel => exact ⟨k + 1, by omega, by go_num, HS⟩
   case measure => simp [intOf]; omega
  ·have i0 : (b.toNat : Int) < 48 := by omega
   have t0 : ((b.toNat : Int) != 95) = true := by simp; omega
   have t1 : ((b.toNat : Int) != 45) = false := by simp; omega
   have HS := ι (show (l.take (k + 1)).all nmC = true by rw [all_take_succ HB.out, HA.out, HC.out.2 (by omega)]; rfl)
   clear hc
   go_wp2_with fail
   go_round
   case rel => exact ⟨k + 1, by omega, by go_num, HS⟩
   case measure => simp [intOf]; omega
  ·have i0 : (b.toNat : Int) < 48 := by omega
   have t0 : ((b.toNat : Int) != 95) = true := by simp; omega
   have t1 : ((b.toNat : Int) != 45) = true := by simp; omega
   have HS := ι (show l.all nmC = false by
    rw [List.all_eq_false]
    exact ⟨b, List.mem_of_getElem? HB.out, fun e => by have := HC.out.1 e; omega⟩)
   clear hc
   go_wp2_with fail
   go_ret
   exact ⟨by rw [HS.out]; rfl, rfl⟩
  ·have i0 : (57 : Int) < (b.toNat : Int) := by omega
   have i1 : (b.toNat : Int) < 65 := by omega
   have t0 : ((b.toNat : Int) != 95) = true := by simp; omega
   have t1 : ((b.toNat : Int) != 45) = true := by simp; omega
   have HS := ι (show l.all nmC = false by
    rw [List.all_eq_false]
    exact ⟨b, List.mem_of_getElem? HB.out, fun e => by have := HC.out.1 e; omega⟩)
   clear hc
   go_wp2_with fail
   go_ret
   exact ⟨by rw [HS.out]; rfl, rfl⟩
  have i0 : (90 : Int) < (b.toNat : Int) := by omega
  have t0 : ((b.toNat : Int) != 95) = true := by simp; omega
  have t1 : ((b.toNat : Int) != 45) = true := by simp; omega
  have HS := ι (show l.all nmC = false by
   rw [List.all_eq_false]
   exact ⟨b, List.mem_of_getElem? HB.out, fun e => by have := HC.out.1 e; omega⟩)
  clear hc
  go_wp2_with fail
  go_ret
  exact ⟨by rw [HS.out]; rfl, rfl⟩
 obtain rfl : k = s.size := by omega
 have HE := ι (show l.all nmC = true by
  have := HA.out
  rwa [List.take_of_length_le (by rw [HLN.out]; exact Nat.le_refl _)] at this)
 clear hlt
 go_wp2_with fail
 go_ret
 exact ⟨by rw [HE.out]; rfl, rfl⟩
theorem name_any (s : ByteArray) (w : World) :
  Calls Tryz.prog 52 #[.string s] w fun e w' => e = .returned (.bool (nmB s.data.toList)) ∧ w = w' := by
 unfold nmB
 cases h : nmH s.data.toList with
 | false => exact name_no s w h
 | true => rw [Bool.true_and]; exact name_yes s w h
def inB (n a b : Int) : Bool := decide (a ≤ n) && decide (n ≤ b)
theorem inB_yes {n a b : Int} : inB n a b = true ↔ a ≤ n ∧ n ≤ b := by unfold inB; simp
theorem from_any (n a b : Int) (w : World) :
  Calls Tryz.prog 116 #[.int .i64 n, .int .i64 a, .int .i64 b] w fun e w' => e = .returned (.bool (inB n a b)) ∧ w = w' := by
 unfold inB
 by_cases h : a ≤ n
 ·have t0 : decide (a ≤ n) = true := by simpa using h
  go_enter Tryz.func116, Tryz.ntmps116
  go_wp2_with fail
  go_ret
  exact ⟨by rw [t0]; rfl, rfl⟩
 have t0 : decide (a ≤ n) = false := by simpa using h
 go_enter Tryz.func116, Tryz.ntmps116
 go_wp2_with fail
 go_ret
 exact ⟨rfl, rfl⟩
def rgE (r : Rg) : Int :=
 if nmB r.name = false then 5 else if (!inB r.top 0 14 || !inB r.hei 1 (15 - r.top) || !inB r.lef 0 31 || !inB r.wid 1 (32 - r.lef)) = true then 2 else if r.ali < 1 ∨ 3 < r.ali then 3 else 0
def rgE2 (b0 b1 b2 b3 b4 : Bool) (a : Int) : Int := if b0 = false then 5 else if (!b1 || !b2 || !b3 || !b4) = true then 2 else if a < 1 ∨ 3 < a then 3 else 0
theorem rcheck_any (r : Rg) (w : World) :
  Calls Tryz.prog 79 #[r.v] w fun e w' => e = .returned (.int .i64 (rgE r)) ∧ Below w.heap.size w w' := by
 obtain ⟨name, top, hei, lef, wid, ali, bot⟩ := r
 have HN := ι (name_any (sB name))
 obtain ⟨b0, h0⟩ : ∃ b, b = nmB name := ⟨_, rfl⟩
 obtain ⟨b1, h1⟩ : ∃ b, b = inB top 0 14 := ⟨_, rfl⟩
 obtain ⟨b2, h2⟩ : ∃ b, b = inB hei 1 (15 - top) := ⟨_, rfl⟩
 obtain ⟨b3, h3⟩ : ∃ b, b = inB lef 0 31 := ⟨_, rfl⟩
 obtain ⟨b4, h4⟩ : ∃ b, b = inB wid 1 (32 - lef) := ⟨_, rfl⟩
 have HE := ι (show rgE2 b0 b1 b2 b3 b4 ali = rgE ⟨name, top, hei, lef, wid, ali, bot⟩ by rw [h0, h1, h2, h3, h4]; rfl)
 rw [← HE.out]
 rw [sB_list, ← h0] at HN
 have F1 := ι (fun w : World => (h1 ▸ from_any top 0 14 w))
 have F3 := ι (fun w : World => (h3 ▸ from_any lef 0 31 w))
 have i2 : b1 = true → IntKind.i64.wrap (15 - top) = 15 - top := fun e => by rw [h1] at e; have := inB_yes.1 e; rw [IntKind.wrap_i64]; omega
 have i4 : b3 = true → IntKind.i64.wrap (32 - lef) = 32 - lef := fun e => by rw [h3] at e; have := inB_yes.1 e; rw [IntKind.wrap_i64]; omega
 have F2 := ι (fun w : World => (h2 ▸ from_any hei 1 (15 - top) w))
 have F4 := ι (fun w : World => (h4 ▸ from_any wid 1 (32 - lef) w))
 have I2 := ι i2
 have I4 := ι i4
 clear h0 h1 h2 h3 h4 i2 i4
 unfold Rg.v
 cases b0 with
 | false =>
  go_enter Tryz.func79, Tryz.ntmps79
  go_wp2_with (first | (go_at_call 52; ((with_reducible refine (HN.out _).mono ?_); rintro e w1 ⟨rfl, rfl⟩)) | (go_at_call 116; (first | ((with_reducible refine (F1.out _).mono ?_); rintro e w1 ⟨rfl, rfl⟩) | ((with_reducible refine (F2.out _).mono ?_); rintro e w1 ⟨rfl, rfl⟩) | ((with_reducible refine (F3.out _).mono ?_); rintro e w1 ⟨rfl, rfl⟩) | ((with_reducible refine (F4.out _).mono ?_); rintro e w1 ⟨rfl, rfl⟩))))
  go_ret
  exact ⟨rfl, Below.more' _ _⟩
 | true =>
  cases b1 with
  | false =>
   go_enter Tryz.func79, Tryz.ntmps79
   go_wp2_with (first | (go_at_call 52; ((with_reducible refine (HN.out _).mono ?_); rintro e w1 ⟨rfl, rfl⟩)) | (go_at_call 116; (first | ((with_reducible refine (F1.out _).mono ?_); rintro e w1 ⟨rfl, rfl⟩) | ((with_reducible refine (F2.out _).mono ?_); rintro e w1 ⟨rfl, rfl⟩) | ((with_reducible refine (F3.out _).mono ?_); rintro e w1 ⟨rfl, rfl⟩) | ((with_reducible refine (F4.out _).mono ?_); rintro e w1 ⟨rfl, rfl⟩))))
   go_ret
   exact ⟨rfl, Below.more' _ _⟩
  | true =>
   have i2 := I2.out rfl
   cases b2 with
   | false =>
    go_enter Tryz.func79, Tryz.ntmps79
    go_wp2_with (first | (go_at_call 52; ((with_reducible refine (HN.out _).mono ?_); rintro e w1 ⟨rfl, rfl⟩)) | (go_at_call 116; (first | ((with_reducible refine (F1.out _).mono ?_); rintro e w1 ⟨rfl, rfl⟩) | ((with_reducible refine (F2.out _).mono ?_); rintro e w1 ⟨rfl, rfl⟩) | ((with_reducible refine (F3.out _).mono ?_); rintro e w1 ⟨rfl, rfl⟩) | ((with_reducible refine (F4.out _).mono ?_); rintro e w1 ⟨rfl, rfl⟩))))
    go_ret
    exact ⟨rfl, Below.more' _ _⟩
   | true =>
    cases b3 with
    | false =>
     go_enter Tryz.func79, Tryz.ntmps79
     go_wp2_with (first | (go_at_call 52; ((with_reducible refine (HN.out _).mono ?_); rintro e w1 ⟨rfl, rfl⟩)) | (go_at_call 116; (first | ((with_reducible refine (F1.out _).mono ?_); rintro e w1 ⟨rfl, rfl⟩) | ((with_reducible refine (F2.out _).mono ?_); rintro e w1 ⟨rfl, rfl⟩) | ((with_reducible refine (F3.out _).mono ?_); rintro e w1 ⟨rfl, rfl⟩) | ((with_reducible refine (F4.out _).mono ?_); rintro e w1 ⟨rfl, rfl⟩))))
     go_ret
     exact ⟨rfl, Below.more' _ _⟩
    | true =>
     have i4 := I4.out rfl
     cases b4 with
     | false =>
      go_enter Tryz.func79, Tryz.ntmps79
      go_wp2_with (first | (go_at_call 52; ((with_reducible refine (HN.out _).mono ?_); rintro e w1 ⟨rfl, rfl⟩)) | (go_at_call 116; (first | ((with_reducible refine (F1.out _).mono ?_); rintro e w1 ⟨rfl, rfl⟩) | ((with_reducible refine (F2.out _).mono ?_); rintro e w1 ⟨rfl, rfl⟩) | ((with_reducible refine (F3.out _).mono ?_); rintro e w1 ⟨rfl, rfl⟩) | ((with_reducible refine (F4.out _).mono ?_); rintro e w1 ⟨rfl, rfl⟩))))
      go_ret
      exact ⟨rfl, Below.more' _ _⟩
     | true =>
      by_cases ha : ali < 1
      ·have t0 : decide (ali < 1) = true := by simpa using ha
       rw [show rgE2 true true true true true ali = 3 by unfold rgE2; rw [if_neg (by decide), if_neg (by decide), if_pos (.inl ha)]]
       go_enter Tryz.func79, Tryz.ntmps79
       go_wp2_with (first | (go_at_call 52; ((with_reducible refine (HN.out _).mono ?_); rintro e w1 ⟨rfl, rfl⟩)) | (go_at_call 116; (first | ((with_reducible refine (F1.out _).mono ?_); rintro e w1 ⟨rfl, rfl⟩) | ((with_reducible refine (F2.out _).mono ?_); rintro e w1 ⟨rfl, rfl⟩) | ((with_reducible refine (F3.out _).mono ?_); rintro e w1 ⟨rfl, rfl⟩) | ((with_reducible refine (F4.out _).mono ?_); rintro e w1 ⟨rfl, rfl⟩))))
       go_ret
       exact ⟨rfl, Below.more' _ _⟩
      have t0 : decide (ali < 1) = false := by simpa using ha
      by_cases hb : 3 < ali
      ·have t1 : decide (3 < ali) = true := by simpa using hb
       rw [show rgE2 true true true true true ali = 3 by unfold rgE2; rw [if_neg (by decide), if_neg (by decide), if_pos (.inr hb)]]
       go_enter Tryz.func79, Tryz.ntmps79
       go_wp2_with (first | (go_at_call 52; ((with_reducible refine (HN.out _).mono ?_); rintro e w1 ⟨rfl, rfl⟩)) | (go_at_call 116; (first | ((with_reducible refine (F1.out _).mono ?_); rintro e w1 ⟨rfl, rfl⟩) | ((with_reducible refine (F2.out _).mono ?_); rintro e w1 ⟨rfl, rfl⟩) | ((with_reducible refine (F3.out _).mono ?_); rintro e w1 ⟨rfl, rfl⟩) | ((with_reducible refine (F4.out _).mono ?_); rintro e w1 ⟨rfl, rfl⟩))))
       go_ret
       exact ⟨rfl, Below.more' _ _⟩
      have t1 : decide (3 < ali) = false := by simpa using hb
      rw [show rgE2 true true true true true ali = 0 by unfold rgE2; rw [if_neg (by decide), if_neg (by decide), if_neg (by omega)]]
      go_enter Tryz.func79, Tryz.ntmps79
      go_wp2_with (first | (go_at_call 52; ((with_reducible refine (HN.out _).mono ?_); rintro e w1 ⟨rfl, rfl⟩)) | (go_at_call 116; (first | ((with_reducible refine (F1.out _).mono ?_); rintro e w1 ⟨rfl, rfl⟩) | ((with_reducible refine (F2.out _).mono ?_); rintro e w1 ⟨rfl, rfl⟩) | ((with_reducible refine (F3.out _).mono ?_); rintro e w1 ⟨rfl, rfl⟩) | ((with_reducible refine (F4.out _).mono ?_); rintro e w1 ⟨rfl, rfl⟩))))
      go_ret
      exact ⟨rfl, Below.more' _ _⟩
def rg0 : Rg := ⟨[], 0, 0, 0, 0, 0, false⟩
def rgD : Rg := ⟨[], 11, 4, 0, 32, 2, true⟩
theorem default_any (w : World) : Calls Tryz.prog 117 #[] w fun e w' => e = .returned rgD.v ∧ Below w.heap.size w w' := by
 go_enter Tryz.func117, Tryz.ntmps117
 go_wp2_with fail
 refine bodyPost_ret (v := rgD.v) (by simp [results, Tryz.results117, go_sem]; try rfl) rfl ⟨rfl, ?_⟩
 exact Below.more' _ _
def findL (nm : List UInt8) : List Rg → Rg × Bool
 | [] => (rg0, false)
 | x :: t => if x.name = nm then (x, true) else findL nm t
def findV (l : List Rg) (nm : List UInt8) : Rg × Bool := if nm = [] then (rgD, true) else findL nm l
theorem findL_drop {nm : List UInt8} {l : List Rg} {k : Nat} {x : Rg} (hk : l[k]? = some x) : findL nm (l.drop k) = if x.name = nm then (x, true) else findL nm (l.drop (k + 1)) := by
 rw [List.drop_eq_getElem_cons (List.getElem?_eq_some_iff.1 hk).1, (List.getElem?_eq_some_iff.1 hk).2]
 rfl
theorem str_eq (a b : List UInt8) : ((sB a).toList == (sB b).toList) = decide (a = b) := by
 rw [Lib.toList_data, Lib.toList_data, sB_list, sB_list]
 by_cases h : a = b
 ·subst h; simp
 simp [h]
theorem str_emp (a : List UInt8) : (sB a).toList.isEmpty = a.isEmpty := by
 rw [Lib.toList_data, sB_list]
theorem find_any (v : Value) (l : List Rg) (nm : List UInt8) (w : World) (h : RegsAt w v l) (hl : l.length ≤ 1000) :
  Calls Tryz.prog 80 #[v, .string (sB nm)] w fun e w' => e = .returned (.tuple #[(findV l nm).1.v, .bool (findV l nm).2]) ∧ Below w.heap.size w w' := by
 obtain ⟨A, c, rfl⟩ := h.form
 have H := ι h
 clear h
 obtain ⟨G, hG⟩ : ∃ G, G = w.heap.size := ⟨_, rfl⟩
 have HG := ι hG
 by_cases h0 : nm = []
 ·subst h0
  have t0 : (sB []).toList.isEmpty = true := str_emp []
  go_enter Tryz.func80, Tryz.ntmps80
  go_wp2_with fail
  rw [← hG]
  generalize hw1 : World.alloc _ _ = w1
  have H1 := ι (show Held w1 G rg0.cs by subst hw1; exact Held.new hG)
  have B1 := ι (show Below G w w1 by subst hw1; rw [hG]; exact Below.more' _ _)
  clear hw1 hG
  refine (default_any w1).mono ?_
  rintro e w2 ⟨rfl, hb⟩
  have H2 := ι (H1.out.ext hb)
  have B2 := ι (B1.out.trans (hb.mono (Nat.le_of_lt H1.out.lt)))
  have q := H2.out.cell
  have y := H2.out.free
  unfold rg0 Rg.cs at q
  clear hb H1 B1
  unfold rgD Rg.v
  go_wp2_with (with_reducible refine stop_at ?_)
  unfold StopAt
  clear q y
  generalize hw3 : World.setCell _ _ _ = w3
  have H3 := ι (show Held w3 G rgD.cs by subst hw3; exact H2.out.all rgD.cs rfl)
  have B3 := ι (show Below G w w3 by subst hw3; exact Below.all (Nat.le_refl _) rgD.cs 0 B2.out)
  have r := H3.out.cell
  unfold rgD Rg.cs at r
  refine bodyPost_ret (by simp [results, Tryz.results80, r, go_sem]; try rfl) rfl ?_
  exact ⟨rfl, HG.out ▸ B3.out⟩
 have HE := ι (show findV l nm = findL nm l by unfold findV; rw [if_neg h0])
 rw [HE.out]
 have t0 : (sB nm).toList.isEmpty = false := by
  rw [str_emp]
  cases nm with
  | nil => exact absurd rfl h0
  | cons _ _ => rfl
 clear h0
 go_enter Tryz.func80, Tryz.ntmps80
 go_wp2_with fail
 rw [← hG]
 generalize hw1 : World.alloc _ _ = w1
 have H1 := ι (show Held w1 G rg0.cs by subst hw1; exact Held.new hG)
 have B1 := ι (show Below G w w1 by subst hw1; rw [hG]; exact Below.more' _ _)
 have hGw : G < w1.heap.size := H1.out.lt
 clear hw1 hG t0
 go_loopw [13] (fun i wr => ∃ k : Nat, k ≤ l.length ∧ i = .int .i64 k ∧ Hid (findL nm (l.drop k) = findL nm l) ∧ Hid (Below w1.heap.size w1 wr)) (fun i _ => l.length - (intOf i).toNat)
 case atStart => exact ⟨0, Nat.zero_le _, rfl, ι rfl, ι (Below.refl _ _)⟩
 case round =>
 obtain ⟨k, hk, rfl, HF, BR⟩ := hrel
 have HR := ι (H1.out.below BR.out hGw)
 have BW := ι (show Below w.heap.size w wr from HG.out ▸ B1.out.trans (BR.out.mono (Nat.le_of_lt hGw)))
 by_cases hlt : k < l.length
 ·have hlt2 : (k : Int) < (l.length : Int) := by omega
  obtain ⟨x, hx⟩ : ∃ x, l[k]? = some x := ⟨_, List.getElem?_eq_getElem hlt⟩
  have HD := ι (findL_drop (nm := nm) hx)
  obtain ⟨b, o, rfl, q0, q1, q2, q3, q4, q5, q6⟩ := RegsAt.get (H.out.ext (Flat.stays _) BW.out) hx
  have hbr : b < wr.heap.size := World.block_lt_of_cell? wr _ q0
  have hGr : G < wr.heap.size := HR.out.lt
  clear hx
  obtain ⟨name, top, hei, lef, wid, ali, bot⟩ := x
  by_cases hn : name = nm
  ·subst hn
   have t1 : ((sB name).toList == (sB name).toList) = true := by simp
   have HF2 := ι (show (⟨name, top, hei, lef, wid, ali, bot⟩, true) = findL name l by rw [← HF.out, HD.out, if_pos rfl])
   clear HF HD
   have q := HR.out.cell
   have y := HR.out.free
   unfold rg0 Rg.cs at q
   dsimp only at q0 q1 q2 q3 q4 q5 q6
   go_wp2_with (with_reducible refine stop_at ?_)
   unfold StopAt
   clear q y q0 q1 q2 q3 q4 q5 q6
   generalize hw3 : World.alloc _ _ = w3
   have H3 := ι (show Held w3 G (Rg.cs ⟨name, top, hei, lef, wid, ali, bot⟩) by subst hw3; exact (HR.out.all (Rg.cs ⟨name, top, hei, lef, wid, ali, bot⟩) rfl).alloc _)
   have B3 := ι (show Below w.heap.size w w3 by
    subst hw3
    refine Below.alloc ?_ (by simp; have := BW.out.size; omega) _
    exact Below.all (by rw [HG.out]; exact Nat.le_refl _) (Rg.cs ⟨name, top, hei, lef, wid, ali, bot⟩) 0 BW.out)
   have r := H3.out.cell
   unfold Rg.cs at r
   refine bodyPost_ret (by simp [results, Tryz.results80, r, go_sem]; try rfl) rfl ?_
   exact ⟨by rw [← HF2.out]; rfl, B3.out⟩
  have t1 : ((sB name).toList == (sB nm).toList) = false := by rw [str_eq]; simpa using hn
  have HF2 := ι (show findL nm (l.drop (k + 1)) = findL nm l by rw [← HF.out, HD.out, if_neg hn])
  clear HF HD hn
  dsimp only at q0 q1 q2 q3 q4 q5 q6
  go_wp2_with fail
  go_roundw
  case rel => exact ⟨k + 1, by omega, by go_num, HF2, ι (BR.out.trans ((Below.more' _ _).mono BR.out.size))⟩
  case measure => simp [intOf]; omega
 obtain rfl : k = l.length := by omega
 have HF2 := ι (show (rg0, false) = findL nm l by rw [← HF.out, List.drop_length]; rfl)
 clear HF hlt
 have q := HR.out.cell
 have y := HR.out.free
 unfold rg0 Rg.cs at q
 go_wp2_with (with_reducible refine stop_at ?_)
 unfold StopAt
 clear q y
 generalize hw3 : World.setCell _ _ _ = w3
 have H3 := ι (show Held w3 G rg0.cs by subst hw3; exact HR.out.all rg0.cs rfl)
 have B3 := ι (show Below w.heap.size w w3 by subst hw3; exact Below.all (by rw [HG.out]; exact Nat.le_refl _) rg0.cs 0 BW.out)
 have r := H3.out.cell
 unfold rg0 Rg.cs at r
 refine bodyPost_ret (by simp [results, Tryz.results80, r, go_sem]; try rfl) rfl ?_
 exact ⟨by rw [← HF2.out]; rfl, B3.out⟩
end Go.Proofs.YtmopjhbfobmklaaGreatDoor
