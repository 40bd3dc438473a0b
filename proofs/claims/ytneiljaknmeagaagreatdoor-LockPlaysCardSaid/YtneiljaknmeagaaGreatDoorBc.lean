/-
  The table in memory, and a row of acts. The conditions of the contracts are their hypotheses.
-/
import Derived.Test.YtneiljaknmeagaaGreatDoorBb
import Derived.Test.YtneiljaknmeagaaGreatDoorShelf
namespace Go.Proofs.YtneiljaknmeagaaGreatDoor
open Go.RowKit Go.Joins
set_option linter.unusedVariables false
set_option linter.unusedSimpArgs false
/-- A lease. -/
structure Ls where
  reel : List UInt8
  ses : Int
  fen : Int
  unt : Int
deriving DecidableEq
/-- A table. -/
structure Tb where
  now : Int
  ls : Int
  lf : Int
  ses : List Int
  lea : List Ls
def lsV (x : Ls) : List Value := [.string (sB x.reel), .int .i64 x.ses, .int .i64 x.fen, .int .i64 x.unt]
theorem lsV_len (x : Ls) : (lsV x).length = 4 := rfl
def lsA (x : Ls) : Value := .agg #[.string (sB x.reel), .int .i64 x.ses, .int .i64 x.fen, .int .i64 x.unt]
theorem infoL : (Tryz.prog.info? 49).map (fun i => (i.zero, i.size, i.bytes)) = some (some (.agg #[.string ⟨#[]⟩, .int .i64 0, .int .i64 0, .int .i64 0]), 4, 40) := by kernel_rfl
theorem infoI : (Tryz.prog.info? 2).map (fun i => (i.zero, i.size, i.bytes)) = some (some (.int .i64 0), 1, 8) := by kernel_rfl
theorem info_parts {p : TypeId} {v : Value} {s b : Nat} (h : (Tryz.prog.info? p).map (fun i => (i.zero, i.size, i.bytes)) = some (some v, s, b)) :
    ∃ i0, Tryz.prog.info? p = some i0 ∧ i0.zero = some v ∧ i0.size = s ∧ i0.bytes = b := by
  cases hi : Tryz.prog.info? p with
  | none => rw [hi] at h; cases h
  | some i => rw [hi] at h; simp at h; exact ⟨i, rfl, h.1, h.2.1, h.2.2⟩
theorem own_base {w : World} {base : Nat} {e : TypeId} {size : Nat} {v : Value} {n : Nat} {xs : List Value} (h : w.ownsRow base e size v n xs) : ∀ k, v.ownBlock = some k → base ≤ k := by
  intro k hk
  exact (h.lt k hk).1
theorem below_one (w : World) (o : Obj) : Below w.heap.size w (w.alloc o) := (Below.refl _ _).alloc (Nat.le_refl _) _
/-- A list of leases as a slice of memory reads. -/
abbrev LeasAt (w : World) (A : Option Addr) (L : List Ls) : Prop := RowAt w A (L.flatMap lsV)
theorem LeasAt.get {w : World} {g o : Nat} {L : List Ls} (h : LeasAt w (some ⟨g, o, none⟩) L) {k : Nat} {x : Ls} (hk : L[k]? = some x) :
    w.cell? ⟨g, o + k * 4, none⟩ = some (.string (sB x.reel)) ∧ w.cell? ⟨g, o + k * 4 + 1, none⟩ = some (.int .i64 x.ses) ∧ w.cell? ⟨g, o + k * 4 + 2, none⟩ = some (.int .i64 x.fen) ∧ w.cell? ⟨g, o + k * 4 + 3, none⟩ = some (.int .i64 x.unt) := by
  have H : ∀ j u, j < 4 → (lsV x)[j]? = some u → w.cell? ⟨g, o + k * 4 + j, none⟩ = some u := by
    intro j u hj hu
    obtain ⟨b, o', e, hc⟩ := h (k * 4 + j) u ((flat_get lsV_len hk hj).trans hu)
    cases e
    rwa [← Nat.add_assoc] at hc
  exact ⟨H 0 _ (by omega) rfl, H 1 _ (by omega) rfl, H 2 _ (by omega) rfl, H 3 _ (by omega) rfl⟩
theorem LeasAt.some {w : World} {A : Option Addr} {L : List Ls} (h : LeasAt w A L) {k : Nat} {x : Ls} (hk : L[k]? = some x) : ∃ g o, A = some ⟨g, o, none⟩ := by
  obtain ⟨b, o', e, hc⟩ := h (k * 4 + 0) _ ((flat_get lsV_len hk (by omega)).trans rfl)
  exact ⟨b, o', e⟩
/-- The table at p, its sessions in sv, its leases in lv. -/
def Rep (B p : Nat) (sv lv : Value) (T : Tb) (w : World) : Prop :=
  B ≤ p ∧ w.heap[p]? = some (.cells #[.int .i64 T.now, .int .i64 T.ls, .int .i64 T.lf, sv, lv] 81 (0, 0)) ∧
  w.ownsRow B 2 1 sv T.ses.length (T.ses.map (Value.int .i64)) ∧ w.ownsRow B 49 4 lv T.lea.length (T.lea.flatMap lsV)
theorem Rep.block {B p : Nat} {sv lv : Value} {T : Tb} {w : World} (h : Rep B p sv lv T w) : Held w p [.int .i64 T.now, .int .i64 T.ls, .int .i64 T.lf, sv, lv] := ⟨_, h.2.1⟩
end Go.Proofs.YtneiljaknmeagaaGreatDoor
namespace Go.Proofs.YtneiljaknmeagaaGreatDoor
open Go.RowKit Go.Joins
set_option linter.unusedVariables false
set_option linter.unusedSimpArgs false
theorem own_block {w : World} {base : Nat} {e : TypeId} {size : Nat} {v : Value} {n : Nat} {xs : List Value} (h : w.ownsRow base e size v n xs) {g : Nat} (hg : v.ownBlock = some g) : ∃ cur, w.heap[g]? = some (.cells cur e (0, 0)) := by
  rcases h.2 with ⟨rfl, _⟩ | ⟨g', cap, cur, rfl, _, hh, _⟩
  · cases hg
  · cases hg; exact ⟨cur, hh⟩
theorem own_same {w w' : World} {base : Nat} {e : TypeId} {size : Nat} {v : Value} {n : Nat} {xs : List Value} (h : w.ownsRow base e size v n xs) (hs : ∀ g, v.ownBlock = some g → w'.heap[g]? = w.heap[g]?) : w'.ownsRow base e size v n xs := by
  refine ⟨h.1, h.2.imp id ?_⟩
  rintro ⟨g, cap, cur, rfl, hb, hh, r⟩
  exact ⟨g, cap, cur, rfl, hb, (hs g rfl).trans hh, r⟩
theorem own_put {w : World} {base : Nat} {e : TypeId} {size : Nat} {v : Value} {n : Nat} {xs : List Value} (h : w.ownsRow base e size v n xs) {p : Nat} (hne : v.ownBlock ≠ some p) (i : Nat) (u : Value) : (w.setCell ⟨p, i, none⟩ u).ownsRow base e size v n xs :=
  own_same h fun g hg => Below.heap_setCell w ⟨p, i, none⟩ u g (fun e => hne (by rw [hg, e]))
theorem own_ext {w w' : World} {base : Nat} {e : TypeId} {size : Nat} {v : Value} {n : Nat} {xs : List Value} (h : w.ownsRow base e size v n xs) (hb : Below w.heap.size w w') : w'.ownsRow base e size v n xs :=
  own_same h fun g hg => hb.block g (h.lt g hg).2
theorem own_types {w : World} {b1 b2 : Nat} {e1 e2 : TypeId} {s1 s2 : Nat} {v1 v2 : Value} {n1 n2 : Nat} {x1 x2 : List Value} (h1 : w.ownsRow b1 e1 s1 v1 n1 x1) (h2 : w.ownsRow b2 e2 s2 v2 n2 x2) (hne : e1 ≠ e2) {g : Nat} (hg : v1.ownBlock = some g) : v2.ownBlock ≠ some g := by
  intro hg2
  obtain ⟨c1, k1⟩ := own_block h1 hg
  obtain ⟨c2, k2⟩ := own_block h2 hg2
  rw [k1] at k2
  cases k2
  exact hne rfl
theorem Rep.ge {B p : Nat} {sv lv : Value} {T : Tb} {w : World} (h : Rep B p sv lv T w) : B ≤ p := h.1
theorem Rep.lt {B p : Nat} {sv lv : Value} {T : Tb} {w : World} (h : Rep B p sv lv T w) : p < w.heap.size := h.block.lt
theorem Rep.nes {B p : Nat} {sv lv : Value} {T : Tb} {w : World} (h : Rep B p sv lv T w) : sv.ownBlock ≠ some p := by
  intro hg
  obtain ⟨c1, k1⟩ := own_block h.2.2.1 hg
  rw [h.2.1] at k1
  cases k1
theorem Rep.nel {B p : Nat} {sv lv : Value} {T : Tb} {w : World} (h : Rep B p sv lv T w) : lv.ownBlock ≠ some p := by
  intro hg
  obtain ⟨c1, k1⟩ := own_block h.2.2.2 hg
  rw [h.2.1] at k1
  cases k1
theorem Rep.apart {B p : Nat} {sv lv : Value} {T : Tb} {w : World} (h : Rep B p sv lv T w) {g : Nat} (hg : sv.ownBlock = some g) : lv.ownBlock ≠ some g := own_types h.2.2.1 h.2.2.2 (by decide) hg
theorem Rep.ext {B p : Nat} {sv lv : Value} {T : Tb} {w w' : World} (h : Rep B p sv lv T w) (hb : Below w.heap.size w w') : Rep B p sv lv T w' :=
  ⟨h.1, (hb.block p h.lt).trans h.2.1, own_ext h.2.2.1 hb, own_ext h.2.2.2 hb⟩
theorem heap_put {w : World} {p : Nat} {cs : Array Value} {t : TypeId} (h : w.heap[p]? = some (.cells cs t (0, 0))) (i : Nat) (u : Value) : (w.setCell ⟨p, i, none⟩ u).heap[p]? = some (.cells (cs.setIfInBounds i u) t (0, 0)) := by
  rw [block_setCell h u]
theorem Rep.setNow {B p : Nat} {sv lv : Value} {T : Tb} {w : World} (h : Rep B p sv lv T w) (n : Int) : Rep B p sv lv { T with now := n } (w.setCell ⟨p, 0, none⟩ (.int .i64 n)) :=
  ⟨h.1, heap_put h.2.1 _ _, own_put h.2.2.1 h.nes _ _, own_put h.2.2.2 h.nel _ _⟩
theorem Rep.setLs {B p : Nat} {sv lv : Value} {T : Tb} {w : World} (h : Rep B p sv lv T w) (n : Int) : Rep B p sv lv { T with ls := n } (w.setCell ⟨p, 1, none⟩ (.int .i64 n)) :=
  ⟨h.1, heap_put h.2.1 _ _, own_put h.2.2.1 h.nes _ _, own_put h.2.2.2 h.nel _ _⟩
theorem Rep.setLf {B p : Nat} {sv lv : Value} {T : Tb} {w : World} (h : Rep B p sv lv T w) (n : Int) : Rep B p sv lv { T with lf := n } (w.setCell ⟨p, 2, none⟩ (.int .i64 n)) :=
  ⟨h.1, heap_put h.2.1 _ _, own_put h.2.2.1 h.nes _ _, own_put h.2.2.2 h.nel _ _⟩
theorem Rep.setL {B p : Nat} {sv lv lv' : Value} {T : Tb} {w : World} {L : List Ls} (h0 : B ≤ p) (h1 : w.heap[p]? = some (.cells #[.int .i64 T.now, .int .i64 T.ls, .int .i64 T.lf, sv, lv] 81 (0, 0)))
    (h2 : w.ownsRow B 2 1 sv T.ses.length (T.ses.map (Value.int .i64))) (h3 : w.ownsRow B 49 4 lv' L.length (L.flatMap lsV)) :
    Rep B p sv lv' { T with lea := L } (w.setCell ⟨p, 4, none⟩ lv') := by
  refine ⟨h0, heap_put h1 _ _, own_put h2 ?_ _ _, own_put h3 ?_ _ _⟩
  · intro hg
    obtain ⟨c1, k1⟩ := own_block h2 hg
    rw [h1] at k1
    cases k1
  · intro hg
    obtain ⟨c1, k1⟩ := own_block h3 hg
    rw [h1] at k1
    cases k1
theorem Rep.setS {B p : Nat} {sv lv sv' : Value} {T : Tb} {w : World} {S : List Int} (h0 : B ≤ p) (h1 : w.heap[p]? = some (.cells #[.int .i64 T.now, .int .i64 T.ls, .int .i64 T.lf, sv, lv] 81 (0, 0)))
    (h2 : w.ownsRow B 2 1 sv' S.length (S.map (Value.int .i64))) (h3 : w.ownsRow B 49 4 lv T.lea.length (T.lea.flatMap lsV)) :
    Rep B p sv' lv { T with ses := S } (w.setCell ⟨p, 3, none⟩ sv') := by
  refine ⟨h0, heap_put h1 _ _, own_put h2 ?_ _ _, own_put h3 ?_ _ _⟩
  · intro hg
    obtain ⟨c1, k1⟩ := own_block h2 hg
    rw [h1] at k1
    cases k1
  · intro hg
    obtain ⟨c1, k1⟩ := own_block h3 hg
    rw [h1] at k1
    cases k1
/-- What a method may have turned: the table's block, its rows' blocks, and what is new. -/
structure FrT (B p : Nat) (sv lv : Value) (w : World) (sv' lv' : Value) (w' : World) : Prop where
  below : Below B w w'
  kept : ∀ g, g < w.heap.size → g ≠ p → sv.ownBlock ≠ some g → lv.ownBlock ≠ some g → w'.heap[g]? = w.heap[g]?
  news : ∀ g, sv'.ownBlock = some g → sv.ownBlock = some g ∨ w.heap.size ≤ g
  newl : ∀ g, lv'.ownBlock = some g → lv.ownBlock = some g ∨ w.heap.size ≤ g
theorem FrT.refl (B p : Nat) (sv lv : Value) (w : World) : FrT B p sv lv w sv lv w := ⟨Below.refl _ _, fun _ _ _ _ _ => rfl, fun _ h => .inl h, fun _ h => .inl h⟩
theorem FrT.trans {B p : Nat} {s0 l0 s1 l1 s2 l2 : Value} {w0 w1 w2 : World} (h : FrT B p s0 l0 w0 s1 l1 w1) (k : FrT B p s1 l1 w1 s2 l2 w2) : FrT B p s0 l0 w0 s2 l2 w2 := by
  refine ⟨h.below.trans k.below, fun g hg hp hs hl => ?_, fun g hg => ?_, fun g hg => ?_⟩
  · refine (k.kept g (Nat.lt_of_lt_of_le hg h.below.size) hp ?_ ?_).trans (h.kept g hg hp hs hl)
    · intro e; rcases h.news g e with e' | e'
      · exact hs e'
      · omega
    · intro e; rcases h.newl g e with e' | e'
      · exact hl e'
      · omega
  · rcases k.news g hg with e | e
    · exact h.news g e
    · exact .inr (Nat.le_trans h.below.size e)
  · rcases k.newl g hg with e | e
    · exact h.newl g e
    · exact .inr (Nat.le_trans h.below.size e)
theorem FrT.ext {B p : Nat} {sv lv s1 l1 : Value} {w w1 w2 : World} (h : FrT B p sv lv w s1 l1 w1) (hb : Below w1.heap.size w1 w2) (hB : B ≤ w1.heap.size) : FrT B p sv lv w s1 l1 w2 :=
  ⟨h.below.trans (hb.mono hB), fun g hg hp hs hl => (hb.block g (Nat.lt_of_lt_of_le hg h.below.size)).trans (h.kept g hg hp hs hl), h.news, h.newl⟩
theorem FrT.put {B p : Nat} {sv lv s1 l1 : Value} {w w1 : World} (h : FrT B p sv lv w s1 l1 w1) (hp : B ≤ p) (i : Nat) (u : Value) : FrT B p sv lv w s1 l1 (w1.setCell ⟨p, i, none⟩ u) :=
  ⟨h.below.setCell (p := ⟨p, i, none⟩) hp u, fun g hg hgp hs hl => (Below.heap_setCell w1 ⟨p, i, none⟩ u g hgp).trans (h.kept g hg hgp hs hl), h.news, h.newl⟩
theorem FrT.newL {B p : Nat} {sv lv s1 l1 l2 : Value} {w w1 : World} (h : FrT B p sv lv w s1 l1 w1) (hl : ∀ g, l2.ownBlock = some g → l1.ownBlock = some g ∨ w.heap.size ≤ g) : FrT B p sv lv w s1 l2 w1 :=
  ⟨h.below, h.kept, h.news, fun g hg => (hl g hg).elim (h.newl g) .inr⟩
theorem FrT.newS {B p : Nat} {sv lv s1 l1 s2 : Value} {w w1 : World} (h : FrT B p sv lv w s1 l1 w1) (hl : ∀ g, s2.ownBlock = some g → s1.ownBlock = some g ∨ w.heap.size ≤ g) : FrT B p sv lv w s2 l1 w1 :=
  ⟨h.below, h.kept, fun g hg => (hl g hg).elim (h.news g) .inr, h.newl⟩
theorem FrT.grown {B p : Nat} {sv lv s1 l1 : Value} {w w1 w2 : World} {row : Option Nat} (h : FrT B p sv lv w s1 l1 w1) (hg : w1.grownBy w2 row) (hB : B ≤ w1.heap.size) (hr : ∀ k, row = some k → B ≤ k) (hrow : row = s1.ownBlock ∨ row = l1.ownBlock ∨ row = none) : FrT B p sv lv w s1 l1 w2 := by
  refine ⟨h.below.grown hg hB hr, fun g hgl hgp hs hl => ?_, h.news, h.newl⟩
  refine (hg.block g (Nat.lt_of_lt_of_le hgl h.below.size) ?_).trans (h.kept g hgl hgp hs hl)
  intro e
  rcases hrow with rfl | rfl | rfl
  · rcases h.news g e.symm with e' | e'
    · exact hs e'
    · omega
  · rcases h.newl g e.symm with e' | e'
    · exact hl e'
    · omega
  · cases e
/-- A block that is none of the table's. -/
def Out (p : Nat) (sv lv : Value) (w : World) (g : Nat) : Prop := g < w.heap.size ∧ g ≠ p ∧ sv.ownBlock ≠ some g ∧ lv.ownBlock ≠ some g
theorem FrT.out {B p : Nat} {sv lv s1 l1 : Value} {w w1 : World} (h : FrT B p sv lv w s1 l1 w1) {g : Nat} (ho : Out p sv lv w g) : Out p s1 l1 w1 g := by
  obtain ⟨h1, h2, h3, h4⟩ := ho
  refine ⟨Nat.lt_of_lt_of_le h1 h.below.size, h2, ?_, ?_⟩
  · intro e; rcases h.news g e with e' | e'
    · exact h3 e'
    · omega
  · intro e; rcases h.newl g e with e' | e'
    · exact h4 e'
    · omega
theorem FrT.heap {B p : Nat} {sv lv s1 l1 : Value} {w w1 : World} (h : FrT B p sv lv w s1 l1 w1) {g : Nat} (ho : Out p sv lv w g) : w1.heap[g]? = w.heap[g]? := h.kept g ho.1 ho.2.1 ho.2.2.1 ho.2.2.2
theorem FrT.held {B p : Nat} {sv lv s1 l1 : Value} {w w1 : World} (h : FrT B p sv lv w s1 l1 w1) {g : Nat} {cs : List Value} (hh : Held w g cs) (ho : Out p sv lv w g) : Held w1 g cs := by
  obtain ⟨t, ht⟩ := hh
  exact ⟨t, (h.heap ho).trans ht⟩
theorem Rep.out_new {B p : Nat} {sv lv : Value} {T : Tb} {w w' : World} {g : Nat} (h : Rep B p sv lv T w) (h1 : w.heap.size ≤ g) (h2 : g < w'.heap.size) : Out p sv lv w' g :=
  ⟨h2, by have := h.lt; omega, fun e => by have := (h.2.2.1.lt g e).2; omega, fun e => by have := (h.2.2.2.lt g e).2; omega⟩
/-- A method's end: it gives v, and the table is T'. -/
def Met (B p : Nat) (sv lv : Value) (w : World) (v : Value) (T' : Tb) (e : Ending) (w' : World) : Prop := e = .returned v ∧ ∃ sv' lv', Rep B p sv' lv' T' w' ∧ FrT B p sv lv w sv' lv' w'
end Go.Proofs.YtneiljaknmeagaaGreatDoor
namespace Go.Proofs.YtneiljaknmeagaaGreatDoor
open Go.RowKit Go.Joins
set_option linter.unusedVariables false
set_option linter.unusedSimpArgs false
structure Ac where
  k : Int
  r : Bool
  l : Int
  u : Int
  f : Int
  s : ByteArray
def Ac.cs (a : Ac) : List Value := [.int .u8 a.k, .bool a.r, .int .i64 a.l, .int .i64 a.u, .int .i64 a.f, .string a.s]
/-- v is a row of n acts, below D. -/
def ActsAt (w : World) (D : Nat) (v : Value) (n : Nat) : Prop :=
  n ≤ 9223372036854775807 ∧ ∃ (A : Option Addr) (c : Nat), v = .slice A n c ∧ ∀ i, i < n → ∃ (b o : Nat) (x : Ac), A = some ⟨b, o, none⟩ ∧ b < D ∧ ((0 ≤ x.k ∧ x.k ≤ 255) ∧ x.s.size ≤ 9223372036854775807) ∧ ∀ j u, x.cs[j]? = some u → w.cell? ⟨b, o + i * 6 + j, none⟩ = some u
theorem acts_cells {w w' : World} {D b o i : Nat} {x : Ac} (h : ∀ j u, x.cs[j]? = some u → w.cell? ⟨b, o + i * 6 + j, none⟩ = some u) (hb : b < D) (hw : Below D w w') :
    w'.cell? ⟨b, o + i * 6, none⟩ = some (.int .u8 x.k) ∧ w'.cell? ⟨b, o + i * 6 + 1, none⟩ = some (.bool x.r) ∧ w'.cell? ⟨b, o + i * 6 + 2, none⟩ = some (.int .i64 x.l) ∧ w'.cell? ⟨b, o + i * 6 + 3, none⟩ = some (.int .i64 x.u) ∧
      w'.cell? ⟨b, o + i * 6 + 4, none⟩ = some (.int .i64 x.f) ∧ w'.cell? ⟨b, o + i * 6 + 5, none⟩ = some (.string x.s) := by
  have e : ∀ j, w'.cell? ⟨b, o + i * 6 + j, none⟩ = w.cell? ⟨b, o + i * 6 + j, none⟩ := fun j => by
    unfold World.cell?
    simp only [hw.block b hb]
  refine ⟨?_, ?_, ?_, ?_, ?_, ?_⟩
  · exact (e 0).trans (h 0 _ rfl)
  · exact (e 1).trans (h 1 _ rfl)
  · exact (e 2).trans (h 2 _ rfl)
  · exact (e 3).trans (h 3 _ rfl)
  · exact (e 4).trans (h 4 _ rfl)
  · exact (e 5).trans (h 5 _ rfl)
end Go.Proofs.YtneiljaknmeagaaGreatDoor
