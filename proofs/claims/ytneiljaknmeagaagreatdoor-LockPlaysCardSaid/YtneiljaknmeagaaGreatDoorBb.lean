/-
  Small lemmas: memory, rows, texts and numbers. The conditions of the contracts are their hypotheses.
-/
import Derived.Test.YtneiljaknmeagaaGreatDoorProg
import Derived.Test.YtneiljaknmeagaaGreatDoorBa
import Derived.WalkKit
import Derived.Lib.Hide
import Derived.Deep.QuietTactic
import Derived.BigQuiet
import Derived.Handy
import Derived.Deep.RegionLawGrows
import Derived.Deep.AppendLies
import Derived.WalkSmall
import Derived.WalkLawsBesides
import Derived.WalkSpells
import Derived.Lib.SmallJoins
import Derived.Lib.Split
import Derived.Lib.SplitLaws
import Derived.Lib.IndexMore
import Derived.Lib.ItoaNum
import Derived.Lib.ItoaLen
import Derived.Lib.ParseIntB
namespace Go.Proofs.YtneiljaknmeagaaGreatDoor
open Go.RowKit
set_option linter.unusedVariables false
/-! cells side by side -/
def CellsAt (w : World) (g : Nat) : Nat → List Value → Prop
  | _, [] => True
  | k, a :: l => w.cell? ⟨g, k, none⟩ = some a ∧ CellsAt w g (k + 1) l
theorem CellsAt.all {w : World} {g : Nat} : ∀ {l : List Value} {k : Nat}, CellsAt w g k l → ∀ j u, l[j]? = some u → w.cell? ((⟨g, k, none⟩ : Addr).add j) = some u
  | [], _, _, j, u, hu => by simp at hu
  | a :: l, k, h, 0, u, hu => by rw [Addr.add_lit]; simp at hu; subst hu; exact h.1
  | a :: l, k, h, j + 1, u, hu => by
    have := CellsAt.all (l := l) h.2 j u (by simpa using hu)
    rw [Addr.add_lit] at this ⊢
    rw [show k + (j + 1) = k + 1 + j by omega]; exact this
theorem CellsAt.of_all {w : World} {g : Nat} : ∀ {l : List Value} {k : Nat}, (∀ j u, l[j]? = some u → w.cell? ((⟨g, k, none⟩ : Addr).add j) = some u) → CellsAt w g k l
  | [], _, _ => trivial
  | a :: l, k, h => ⟨by have := h 0 a rfl; rwa [Addr.add_lit] at this, CellsAt.of_all (l := l) fun j u hu => by
      have := h (j + 1) u (by simpa using hu)
      rw [Addr.add_lit] at this ⊢
      rw [show k + 1 + j = k + (j + 1) by omega]; exact this⟩
theorem CellsAt.grown {w w' : World} {g : Nat} (hg : w.grownBy w' none) : ∀ {l : List Value} {k : Nat}, CellsAt w g k l → CellsAt w' g k l
  | [], _, _ => trivial
  | _ :: l, _, h => ⟨hg.cell h.1 (by simp), CellsAt.grown hg (l := l) h.2⟩
theorem CellsAt.below {w w' : World} {B g : Nat} (hb : Below B w w') (hg : g < B) : ∀ {l : List Value} {k : Nat}, CellsAt w g k l → CellsAt w' g k l
  | [], _, _ => trivial
  | _ :: l, _, h => ⟨by rw [hb.cell hg]; exact h.1, CellsAt.below hb hg (l := l) h.2⟩
theorem grown_alloc (w : World) (o : Obj) : w.grownBy (w.alloc o) none := World.grownBy_alloc w o none
theorem below_grown {B : Nat} {W w w' : World} (h : Below B W w) (hB : B ≤ w.heap.size) (hg : w.grownBy w' none) : Below B W w' := h.grown hg hB (by simp)
theorem ownsRow_mono {w : World} {b b' : Nat} {e : TypeId} {size : Nat} {v : Value} {n : Nat} {xs : List Value} (h : w.ownsRow b e size v n xs) (hb : b' ≤ b) : w.ownsRow b' e size v n xs :=
  ⟨h.1, h.2.imp id fun ⟨g, cap, cur, hv, hg, r⟩ => ⟨g, cap, cur, hv, Nat.le_trans hb hg, r⟩⟩
theorem ownsRow_below {w w' : World} {b B : Nat} {e : TypeId} {size : Nat} {v : Value} {n : Nat} {xs : List Value} (h : w.ownsRow b e size v n xs) (hb : Below B w w') (hB : w.heap.size ≤ B) : w'.ownsRow b e size v n xs := by
  refine ⟨h.1, h.2.imp id ?_⟩
  rintro ⟨g, cap, cur, rfl, hg, hh, r⟩
  have hlt : g < w.heap.size := (Array.getElem?_eq_some_iff.1 hh).1
  exact ⟨g, cap, cur, rfl, hg, (hb.block g (by omega)).trans hh, r⟩
theorem heap_at {n : Nat} (w : World) (o : Obj) (h : n = w.heap.size) : (w.alloc o).heap[n]? = some o := by
  subst h; exact heap_alloc_new w o
theorem runs_call {P : Program} {ρ : Operand → Value} {o : Oper} {w : World} {R : Value → World → Prop} {f : FuncId} {args : Array Value}
    (hr : (execOp ρ o).run P w = .ok (.enter f args) w) (hc : Calls P f args w fun e w' => ∃ v, e = .returned v ∧ R v w') : OpRuns P ρ o w R := by
  unfold OpRuns
  rw [hr]
  exact hc.mono fun e w' ⟨v, he, h⟩ => by subst he; exact h
/-! a slice that reads as a list of values, one cell each -/
def RowAt (w : World) (A : Option Addr) (xs : List Value) : Prop :=
  ∀ k u, xs[k]? = some u → ∃ b o, A = some ⟨b, o, none⟩ ∧ w.cell? ⟨b, o + k, none⟩ = some u
theorem RowAt.get {w : World} {A : Option Addr} {xs : List Value} (h : RowAt w A xs) {k : Nat} (hk : k < xs.length) : ∃ b o, A = some ⟨b, o, none⟩ ∧ w.cell? ⟨b, o + k, none⟩ = some xs[k] :=
  h k _ (List.getElem?_eq_getElem hk)
theorem RowAt.ext {w w' : World} {A : Option Addr} {xs : List Value} (h : RowAt w A xs) (hb : Below w.heap.size w w') : RowAt w' A xs := by
  intro k u hk
  obtain ⟨b, o, rfl, hc⟩ := h k u hk
  exact ⟨b, o, rfl, (hb.cell (World.block_lt_of_cell? w _ hc)).trans hc⟩
theorem RowAt.below {w w' : World} {B : Nat} {A : Option Addr} {xs : List Value} (h : RowAt w A xs) (hb : Below B w w') (hB : w.heap.size ≤ B) : RowAt w' A xs := h.ext (hb.mono hB)
theorem RowAt.drewN {w : World} {A : Option Addr} {xs : List Value} (h : RowAt w A xs) (n : Nat) : RowAt (w.drewN n) A xs := h.ext (below_drewN (Below.refl _ _) n)
theorem RowAt.nil (w : World) (A : Option Addr) : RowAt w A [] := fun k u h => by simp at h
theorem RowAt.take {w : World} {A : Option Addr} {xs : List Value} (h : RowAt w A xs) (n : Nat) : RowAt w A (xs.take n) := fun k u hk => h k u (by
  rw [List.getElem?_take] at hk
  split at hk
  · exact hk
  · cases hk)
/-- A slice of integers. -/
def IntsAt (w : World) (A : Option Addr) (xs : List Int) : Prop := RowAt w A (xs.map (Value.int .i64))
theorem IntsAt.get {w : World} {A : Option Addr} {xs : List Int} (h : IntsAt w A xs) {k : Nat} (hk : k < xs.length) : ∃ b o, A = some ⟨b, o, none⟩ ∧ w.cell? ⟨b, o + k, none⟩ = some (.int .i64 (xs.getD k 0)) := by
  obtain ⟨b, o, hA, hc⟩ := RowAt.get h (k := k) (by simpa using hk)
  exact ⟨b, o, hA, by simpa [hk] using hc⟩
theorem IntsAt.ext {w w' : World} {A : Option Addr} {xs : List Int} (h : IntsAt w A xs) (hb : Below w.heap.size w w') : IntsAt w' A xs := RowAt.ext h hb
theorem IntsAt.below {w w' : World} {B : Nat} {A : Option Addr} {xs : List Int} (h : IntsAt w A xs) (hb : Below B w w') (hB : w.heap.size ≤ B) : IntsAt w' A xs := RowAt.below h hb hB
theorem IntsAt.drewN {w : World} {A : Option Addr} {xs : List Int} (h : IntsAt w A xs) (n : Nat) : IntsAt (w.drewN n) A xs := RowAt.drewN h n
theorem IntsAt.take {w : World} {A : Option Addr} {xs : List Int} (h : IntsAt w A xs) (n : Nat) : IntsAt w A (xs.take n) := by
  have := RowAt.take h n
  rwa [← List.map_take] at this
/-- What the call owns reads as a slice. -/
theorem row_of_own {w : World} {base : Nat} {e : TypeId} {v : Value} {n : Nat} {xs : List Value} (h : w.ownsRow base e 1 v n xs) :
    ∃ A c, v = .slice A n c ∧ RowAt w A xs ∧ n ≤ c ∧ c ≤ maxLen ∧ xs.length = n := by
  have hl : xs.length = n := by simpa using h.1
  rcases h.2 with ⟨rfl, rfl⟩ | ⟨g, cap, cur, rfl, hb, hg, hnc, hcm, _, _⟩
  · have : xs = [] := List.eq_nil_of_length_eq_zero (by simpa using h.1)
    subst this
    exact ⟨none, 0, rfl, RowAt.nil _ _, Nat.le_refl _, Nat.zero_le _, rfl⟩
  · refine ⟨some ⟨g, 0, none⟩, cap, rfl, fun k u hk => ⟨g, 0, rfl, ?_⟩, hnc, hcm, hl⟩
    have := h.cells (g := g) rfl k u hk
    rwa [Addr.add_lit] at this
theorem ints_of_own {w : World} {base : Nat} {e : TypeId} {v : Value} {n : Nat} {xs : List Int} (h : w.ownsRow base e 1 v n (xs.map (Value.int .i64))) :
    ∃ A c, v = .slice A xs.length c ∧ IntsAt w A xs ∧ xs.length ≤ c ∧ c ≤ maxLen := by
  obtain ⟨A, c, rfl, h1, h2, h3, h4⟩ := row_of_own h
  simp at h4
  subst h4
  exact ⟨A, c, rfl, h1, h2, h3⟩
/-- A block's cells from place k on, as a slice. -/
theorem row_of_cells {w : World} {g k : Nat} {xs : List Value} (h : CellsAt w g k xs) : RowAt w (some ⟨g, k, none⟩) xs := fun j u hj => ⟨g, k, rfl, by
  have := h.all j u hj
  rwa [Addr.add_lit] at this⟩
theorem ret_val {a b : Value} (h : a = b) : Ending.returned a = Ending.returned b := by rw [h]
end Go.Proofs.YtneiljaknmeagaaGreatDoor
namespace Go.Proofs.YtneiljaknmeagaaGreatDoor
open Go.RowKit Go.Joins
set_option linter.unusedVariables false
/-- Block g holds these cells, and they may be written. -/
def Held (w : World) (g : Nat) (cs : List Value) : Prop := ∃ t, w.heap[g]? = some (.cells cs.toArray t (0, 0))
theorem Held.cell {w : World} {g : Nat} {cs : List Value} (h : Held w g cs) (i : Nat) : w.cell? ⟨g, i, none⟩ = cs[i]? := by
  obtain ⟨t, h⟩ := h
  rw [cell_of_block h i]; simp
theorem Held.free {w : World} {g : Nat} {cs : List Value} (h : Held w g cs) (i : Nat) : w.frozen? ⟨g, i, none⟩ = false := by
  obtain ⟨t, h⟩ := h
  exact unfrozen_of_block h i
theorem Held.lt {w : World} {g : Nat} {cs : List Value} (h : Held w g cs) : g < w.heap.size := by
  obtain ⟨t, h⟩ := h
  exact (Array.getElem?_eq_some_iff.1 h).1
theorem Held.below {w w' : World} {B g : Nat} {cs : List Value} (h : Held w g cs) (hb : Below B w w') (hg : g < B) : Held w' g cs := by
  obtain ⟨t, h⟩ := h
  exact ⟨t, (hb.block g hg).trans h⟩
theorem Held.ext {w w' : World} {g : Nat} {cs : List Value} (h : Held w g cs) (hb : Below w.heap.size w w') : Held w' g cs := h.below hb h.lt
theorem Held.drewN {w : World} {g : Nat} {cs : List Value} (h : Held w g cs) (n : Nat) : Held (w.drewN n) g cs := h
theorem Held.set {w : World} {g : Nat} {cs : List Value} (h : Held w g cs) (i : Nat) (v : Value) : Held (w.setCell ⟨g, i, none⟩ v) g (cs.set i v) := by
  obtain ⟨t, h⟩ := h
  exact ⟨t, by rw [block_setCell h v]; simp⟩
theorem Held.other {w : World} {g g' : Nat} {cs : List Value} (h : Held w g cs) (hne : g ≠ g') (i : Nat) (v : Value) : Held (w.setCell ⟨g', i, none⟩ v) g cs := by
  obtain ⟨t, h⟩ := h
  exact ⟨t, by rw [Below.heap_setCell w ⟨g', i, none⟩ v g hne]; exact h⟩
theorem Held.new {w : World} {g : Nat} {cs : List Value} {t : TypeId} (hg : g = w.heap.size) : Held (w.alloc (.cells cs.toArray t (0, 0))) g cs := ⟨t, heap_at w _ hg⟩
theorem Held.alloc {w : World} {g : Nat} {cs : List Value} (h : Held w g cs) (o : Obj) : Held (w.alloc o) g cs := h.ext ((Below.refl _ _).alloc (Nat.le_refl _) _)
end Go.Proofs.YtneiljaknmeagaaGreatDoor
namespace Go.Proofs.YtneiljaknmeagaaGreatDoor
open Go.RowKit Go.Joins
set_option linter.unusedVariables false
set_option linter.unusedSimpArgs false
section
variable {α : Type} {enc : α → List Value} {m : Nat}
theorem flat_len (hm : ∀ x, (enc x).length = m) : ∀ l : List α, (l.flatMap enc).length = l.length * m
  | [] => by simp
  | x :: r => by rw [List.flatMap_cons, List.length_append, flat_len hm r, hm, List.length_cons, Nat.succ_mul]; omega
theorem flat_take (hm : ∀ x, (enc x).length = m) : ∀ (l : List α) (k : Nat), (l.flatMap enc).take (k * m) = (l.take k).flatMap enc
  | [], k => by simp
  | x :: r, 0 => by simp
  | x :: r, k + 1 => by
    rw [List.flatMap_cons, List.take_succ_cons, List.flatMap_cons, List.take_append, ← flat_take hm r k, hm, List.take_of_length_le (by rw [hm, Nat.succ_mul]; omega), Nat.succ_mul, Nat.add_sub_cancel]
theorem flat_drop (hm : ∀ x, (enc x).length = m) : ∀ (l : List α) (k : Nat), (l.flatMap enc).drop (k * m) = (l.drop k).flatMap enc
  | [], k => by simp
  | x :: r, 0 => by simp
  | x :: r, k + 1 => by
    rw [List.flatMap_cons, List.drop_succ_cons, List.drop_append, ← flat_drop hm r k, hm, List.drop_of_length_le (by rw [hm, Nat.succ_mul]; omega), Nat.succ_mul, Nat.add_sub_cancel, List.nil_append]
theorem flat_get (hm : ∀ x, (enc x).length = m) {l : List α} {k : Nat} {x : α} (hk : l[k]? = some x) {j : Nat} (hj : j < m) : (l.flatMap enc)[k * m + j]? = (enc x)[j]? := by
  have h1 : ((l.flatMap enc).drop (k * m))[j]? = (enc x)[j]? := by
    rw [flat_drop hm, List.drop_eq_getElem_cons (List.getElem?_eq_some_iff.1 hk).1, (List.getElem?_eq_some_iff.1 hk).2, List.flatMap_cons, List.getElem?_append_left (by rw [hm]; exact hj)]
  rw [← h1, List.getElem?_drop]
/-- A row of a call's own, whatever its elements' size. -/
theorem row_of_ownK {w : World} {base : Nat} {e : TypeId} {size : Nat} {v : Value} {n : Nat} {xs : List Value} (h : w.ownsRow base e size v n xs) :
    ∃ A c, v = .slice A n c ∧ RowAt w A xs ∧ n ≤ c ∧ c ≤ maxLen ∧ xs.length = n * size := by
  have hl : xs.length = n * size := h.1
  rcases h.2 with ⟨rfl, rfl⟩ | ⟨g, cap, cur, rfl, hb, hg, hnc, hcm, _, _⟩
  · have : xs = [] := List.eq_nil_of_length_eq_zero (by simpa using h.1)
    subst this
    exact ⟨none, 0, rfl, RowAt.nil _ _, Nat.le_refl _, Nat.zero_le _, by simp⟩
  · refine ⟨some ⟨g, 0, none⟩, cap, rfl, fun k u hk => ⟨g, 0, rfl, ?_⟩, hnc, hcm, hl⟩
    have := h.cells (g := g) rfl k u hk
    rwa [Addr.add_lit] at this
end
end Go.Proofs.YtneiljaknmeagaaGreatDoor
namespace Go.Proofs.YtneiljaknmeagaaGreatDoor
open Go.RowKit Go.Joins
set_option linter.unusedVariables false
set_option linter.unusedSimpArgs false
def sB (l : List UInt8) : ByteArray := ⟨l.toArray⟩
theorem sB_list (l : List UInt8) : (sB l).data.toList = l := rfl
theorem sB_of (s : ByteArray) : sB s.data.toList = s := ByteArray.ext (by simp [sB])
theorem sB_size (l : List UInt8) : (sB l).size = l.length := by show l.toArray.size = _; simp
theorem sB_app (a b : List UInt8) : sB a ++ sB b = sB (a ++ b) := ByteArray.ext (by simp [sB])
theorem sB_inj {a b : List UInt8} (h : sB a = sB b) : a = b := by have := congrArg (fun s : ByteArray => s.data.toList) h; exact this
theorem add_sB {a b : List UInt8} (h : a.length + b.length ≤ 1000000000) (w : World) : (Op.stringOp .add (sB a) (sB b)).run Tryz.prog w = .ok (.string (sB (a ++ b))) w := by
  rw [← sB_app]
  exact run_string_add_sum w _ _ (by rw [sB_size, sB_size]; omega)
theorem ret_int {k : IntKind} {a b : Int} (h : a = b) : Ending.returned (.int k a) = .returned (.int k b) := by rw [h]
theorem ret_bool {a b : Bool} (h : a = b) : Ending.returned (.bool a) = .returned (.bool b) := by rw [h]
def StopAt (p : Prop) : Prop := p
/-- Stops the walk at a return (else it tries to go back to a caller). -/
theorem stop_at {P : Program} {fn : Func} {R : Ending → World → Prop} {a : Act} {w : World} (h : StopAt (bodyPost P fn R .ret a w)) : bodyPost P fn R .ret a w := h
end Go.Proofs.YtneiljaknmeagaaGreatDoor
namespace Go.Proofs.YtneiljaknmeagaaGreatDoor
set_option linter.unusedVariables false
set_option linter.unusedSimpArgs false
/-! cut at a byte -/
theorem index_one (c : UInt8) : ∀ (s : List UInt8), (Lib.index s [c] = -1 ∧ c ∉ s) ∨ ∃ u v, s = u ++ c :: v ∧ c ∉ u ∧ Lib.index s [c] = u.length
  | [] => .inl ⟨rfl, by simp⟩
  | b :: r => by
    by_cases hb : b = c
    · subst hb
      exact .inr ⟨[], r, rfl, by simp, by simp [Lib.index, List.isPrefixOf]⟩
    · have hp : ([c] : List UInt8).isPrefixOf (b :: r) = false := by simp [List.isPrefixOf]; exact fun h => hb h.symm
      rcases index_one c r with ⟨h1, h2⟩ | ⟨u, v, rfl, h2, h3⟩
      · left
        refine ⟨by rw [Lib.index, hp, h1]; rfl, ?_⟩
        intro h
        rcases List.mem_cons.1 h with h | h
        · exact hb h.symm
        · exact h2 h
      · right
        refine ⟨b :: u, v, rfl, ?_, ?_⟩
        · intro h
          rcases List.mem_cons.1 h with h | h
          · exact hb h.symm
          · exact h2 h
        · have hne : ((u.length : Int) == -1) = false := by rw [beq_eq_false_iff_ne]; omega
          rw [Lib.index, hp, h3]
          simp [hne]
def addW (b : UInt8) : List (List UInt8) → List (List UInt8)
  | [] => [[b]]
  | w :: ws => (b :: w) :: ws
/-- The words between the bytes c. -/
def wordsC (c : UInt8) : List UInt8 → List (List UInt8)
  | [] => [[]]
  | b :: r => if b = c then [] :: wordsC c r else addW b (wordsC c r)
theorem wordsC_no {c : UInt8} : ∀ {s : List UInt8}, c ∉ s → wordsC c s = [s]
  | [], _ => rfl
  | b :: r, h => by
    have hb : b ≠ c := fun e => h (by rw [e]; exact List.mem_cons_self)
    have hr : c ∉ r := fun e => h (List.mem_cons_of_mem _ e)
    rw [wordsC, if_neg hb, wordsC_no hr]; rfl
theorem wordsC_cut {c : UInt8} : ∀ {u v : List UInt8}, c ∉ u → wordsC c (u ++ c :: v) = u :: wordsC c v
  | [], v, _ => by simp [wordsC]
  | b :: r, v, h => by
    have hb : b ≠ c := fun e => h (by rw [e]; exact List.mem_cons_self)
    have hr : c ∉ r := fun e => h (List.mem_cons_of_mem _ e)
    rw [List.cons_append, wordsC, if_neg hb, wordsC_cut hr]; rfl
theorem splitK_wordsC (c : UInt8) : ∀ (k : Nat) (s : List UInt8), s.count c ≤ k → Lib.splitK [c] 0 k s = wordsC c s
  | 0, s, h => by
    rw [wordsC_no (fun hm => by have := List.count_pos_iff.2 hm; omega)]; rfl
  | k + 1, s, h => by
    rcases index_one c s with ⟨h1, h2⟩ | ⟨u, v, rfl, h2, h3⟩
    · rw [Lib.splitK, h1, wordsC_no h2]; rfl
    · have hne : ((u.length : Int) == -1) = false := by rw [beq_eq_false_iff_ne]; omega
      rw [Lib.splitK, h3, wordsC_cut h2, hne]
      have hc : v.count c ≤ k := by
        rw [List.count_append, List.count_cons_self] at h
        omega
      simp
      exact splitK_wordsC c k v hc
theorem countFrom_one (c : UInt8) : ∀ (f : Nat) (s : List UInt8), s.length < f → Lib.countFrom [c] f s = s.count c
  | 0, s, h => by omega
  | f + 1, s, h => by
    rcases index_one c s with ⟨h1, h2⟩ | ⟨u, v, rfl, h2, h3⟩
    · rw [Lib.countFrom, h1, List.count_eq_zero.2 h2]; rfl
    · have hne : ((u.length : Int) == -1) = false := by rw [beq_eq_false_iff_ne]; omega
      have hl : v.length < f := by simp at h; omega
      have hu : u.count c = 0 := List.count_eq_zero.2 h2
      rw [Lib.countFrom, h3, hne, List.count_append, List.count_cons_self, hu]
      simp
      rw [countFrom_one c f v hl]
      omega
/-- What strings.Split gives at one byte. -/
theorem split_wordsC (c : UInt8) (s : ByteArray) : (Lib.splitB ⟨#[c]⟩ 0 (Lib.countB s ⟨#[c]⟩) s).map (·.data.toList) = wordsC c s.data.toList := by
  rw [Lib.splitB_data]
  refine splitK_wordsC c _ _ ?_
  have : Lib.countB s ⟨#[c]⟩ = s.data.toList.count c := by
    unfold Lib.countB Lib.count
    exact countFrom_one c _ _ (by omega)
  rw [this]
  exact Nat.le_refl _
/-- Before and behind the first byte c. -/
def cutC (c : UInt8) : List UInt8 → List UInt8 × List UInt8
  | [] => ([], [])
  | b :: r => if b = c then ([], r) else (b :: (cutC c r).1, (cutC c r).2)
theorem cutC_no {c : UInt8} : ∀ {s : List UInt8}, c ∉ s → cutC c s = (s, [])
  | [], _ => rfl
  | b :: r, h => by
    have hb : b ≠ c := fun e => h (by rw [e]; exact List.mem_cons_self)
    have hr : c ∉ r := fun e => h (List.mem_cons_of_mem _ e)
    rw [cutC, if_neg hb, cutC_no hr]
theorem cutC_cut {c : UInt8} : ∀ {u v : List UInt8}, c ∉ u → cutC c (u ++ c :: v) = (u, v)
  | [], v, _ => by simp [cutC]
  | b :: r, v, h => by
    have hb : b ≠ c := fun e => h (by rw [e]; exact List.mem_cons_self)
    have hr : c ∉ r := fun e => h (List.mem_cons_of_mem _ e)
    rw [List.cons_append, cutC, if_neg hb, cutC_cut hr]
/-- What strings.Cut gives at one byte. -/
theorem lib_cut (c : UInt8) (s : List UInt8) : Lib.cut s [c] = ((cutC c s).1, (cutC c s).2, decide (c ∈ s)) := by
  rcases index_one c s with ⟨h1, h2⟩ | ⟨u, v, rfl, h2, h3⟩
  · rw [Lib.cut, h1, cutC_no h2]; simp [h2]
  · rw [Lib.cut, h3, cutC_cut h2, if_pos (by omega)]
    simp
/-! numbers -/
def isD (b : UInt8) : Bool := decide (48 ≤ b.toNat) && decide (b.toNat ≤ 57)
def digs (n : Int) : List UInt8 → Option Int
  | [] => some n
  | b :: r => if isD b then digs (10 * n + ((b.toNat : Int) - 48)) r else none
def numL (l : List UInt8) : Option Int := if l.length < 1 ∨ 9 < l.length ∨ l.head? = some 48 then none else digs 0 l
def numV (l : List UInt8) : Int × Bool := match numL l with | some n => (n, true) | none => (0, false)
theorem numV_some {l : List UInt8} {n : Int} (h : numL l = some n) : numV l = (n, true) := by simp [numV, h]
theorem numV_none {l : List UInt8} (h : numL l = none) : numV l = (0, false) := by simp [numV, h]
theorem digs_bad {n : Int} {b : UInt8} {r : List UInt8} (h : b.toNat < 48 ∨ 57 < b.toNat) : digs n (b :: r) = none := by
  rw [digs, if_neg]
  simp [isD]
  omega
theorem digs_ok {n : Int} {b : UInt8} {r : List UInt8} (h1 : 48 ≤ b.toNat) (h2 : b.toNat ≤ 57) : digs n (b :: r) = digs (10 * n + ((b.toNat : Int) - 48)) r := by
  rw [digs, if_pos]
  simp [isD, h1, h2]
theorem dig_byte {k : Nat} (h : k < 10) : (UInt8.ofNat (48 + k)).toNat = 48 + k := by
  simp
  omega
theorem digs_app : ∀ (u v : List UInt8) (n m : Int), digs n u = some m → digs n (u ++ v) = digs m v
  | [], v, n, m, h => by simp [digs] at h; subst h; rfl
  | b :: r, v, n, m, h => by
    rw [digs] at h
    rw [List.cons_append, digs]
    split at h
    · rename_i hb
      rw [if_pos hb]
      exact digs_app r v _ _ h
    · cases h
theorem digs_dig (n : Int) {k : Nat} (h : k < 10) : digs n [UInt8.ofNat (48 + k)] = some (10 * n + k) := by
  have hb := dig_byte h
  rw [digs_ok (by omega) (by omega), hb, digs]
  congr 1
  omega
theorem digs_dec (u : Nat) : digs 0 (Lib.decDigits u) = some (u : Int) := by
  induction u using Nat.strongRecOn with
  | _ u ih =>
    by_cases h : u < 10
    · rw [Lib.decDigits, dif_pos h, digs_dig 0 h]; simp
    · rw [Lib.decDigits, dif_neg h, digs_app _ _ _ _ (ih (u / 10) (by omega)), digs_dig _ (Nat.mod_lt _ (by decide))]
      congr 1
      omega
theorem dec_ne (u : Nat) : Lib.decDigits u ≠ [] := by
  intro h
  have := Lib.decDigits_length u
  have := Lib.nDigits_pos u
  rw [h] at *
  simp at *
  omega
theorem dec_head (u : Nat) (h1 : 1 ≤ u) : (Lib.decDigits u).head? ≠ some 48 := by
  induction u using Nat.strongRecOn with
  | _ u ih =>
    by_cases h : u < 10
    · rw [Lib.decDigits, dif_pos h]
      intro hh
      have e : UInt8.ofNat (48 + u) = 48 := by simpa only [List.head?_cons, Option.some.injEq] using hh
      have := dig_byte h
      rw [e] at this
      have e2 : (48 : UInt8).toNat = 48 := rfl
      omega
    · rw [Lib.decDigits, dif_neg h]
      have := ih (u / 10) (by omega) (by omega)
      have hne := dec_ne (u / 10)
      cases hd : Lib.decDigits (u / 10) with
      | nil => exact absurd hd hne
      | cons b r => rw [hd] at this; simpa using this
theorem dec_isD (u : Nat) : ∀ b ∈ Lib.decDigits u, isD b = true := by
  induction u using Nat.strongRecOn with
  | _ u ih =>
    have key : ∀ k, k < 10 → isD (UInt8.ofNat (48 + k)) = true := fun k hk => by
      have := dig_byte hk
      simp only [isD, this]
      simp
      omega
    by_cases h : u < 10
    · rw [Lib.decDigits, dif_pos h]
      intro b hb
      simp only [List.mem_singleton] at hb
      subst hb
      exact key u h
    · rw [Lib.decDigits, dif_neg h]
      intro b hb
      rcases List.mem_append.1 hb with hb | hb
      · exact ih (u / 10) (by omega) b hb
      · simp only [List.mem_singleton] at hb
        subst hb
        exact key _ (Nat.mod_lt _ (by decide))
theorem nD_le : ∀ (k u : Nat), u < 10 ^ (k + 1) → Lib.nDigits u ≤ k + 1
  | 0, u, h => by rw [Lib.nDigits_small (by simpa using h)]; exact Nat.le_refl _
  | k + 1, u, h => by
    by_cases h1 : u < 10
    · rw [Lib.nDigits_small h1]; omega
    · rw [Lib.nDigits_big h1]
      have := nD_le k (u / 10) (by rw [Nat.pow_succ] at h; omega)
      omega
theorem itoa_dec {n : Int} (h : 0 ≤ n) : Lib.itoa n = Lib.decDigits n.toNat := by rw [Lib.itoa, if_neg (by omega)]
theorem blank_no {u : Nat} : (32 : UInt8) ∉ Lib.decDigits u := fun h => by
  have := dec_isD u _ h
  revert this
  decide
theorem numL_itoa {n : Int} (h1 : 1 ≤ n) (h2 : n < 1000000000) : numL (Lib.itoa n) = some n := by
  rw [itoa_dec (by omega), numL, if_neg, digs_dec]
  · congr 1; omega
  · have a := Lib.decDigits_length n.toNat
    have b := Lib.nDigits_pos n.toNat
    have c := nD_le 8 n.toNat (by omega)
    have d := dec_head n.toNat (by omega)
    rw [a]
    rintro (h | h | h)
    · omega
    · omega
    · exact d h
theorem digs_back : ∀ (l : List UInt8) (n : Int), digs 0 l = some n → l ≠ [] → l.head? ≠ some 48 → 1 ≤ n ∧ Lib.decDigits n.toNat = l := by
  have snoc : ∀ (r : List UInt8) (a : Int) (d : UInt8) (n : Int), digs a (r ++ [d]) = some n → ∃ m, digs a r = some m ∧ isD d = true ∧ n = 10 * m + ((d.toNat : Int) - 48) := by
    intro r
    induction r with
    | nil =>
      intro a d n h
      rw [List.nil_append, digs] at h
      split at h
      · rename_i hd
        simp [digs] at h
        exact ⟨a, rfl, hd, h.symm⟩
      · cases h
    | cons b r ih =>
      intro a d n h
      rw [List.cons_append, digs] at h
      rw [digs]
      split at h
      · rename_i hb
        rw [if_pos hb]
        exact ih _ d n h
      · cases h
  intro l
  have : ∀ (k : Nat) (l : List UInt8), l.length = k → ∀ (n : Int), digs 0 l = some n → l ≠ [] → l.head? ≠ some 48 → 1 ≤ n ∧ Lib.decDigits n.toNat = l := by
    intro k
    induction k with
    | zero => intro l hl n _ hne _; exact absurd (List.eq_nil_of_length_eq_zero hl) hne
    | succ k ih =>
      intro l hl n h hne hh
      rcases List.eq_nil_or_concat l with rfl | ⟨r, d, rfl⟩
      · exact absurd rfl hne
      · rw [List.concat_eq_append] at *
        obtain ⟨m, hm, hd, rfl⟩ := snoc r 0 d n h
        simp [isD] at hd
        have hbyte : ∀ (j : Nat), d.toNat = 48 + j → UInt8.ofNat (48 + j) = d := fun j hj => by rw [← hj]; exact UInt8.ofNat_toNat
        by_cases hr : r = []
        · subst hr
          simp [digs] at hm
          subst hm
          have h48 : d.toNat ≠ 48 := fun e => hh (by
            have := hbyte 0 (by omega)
            simp at this
            simp [← this])
          refine ⟨by omega, ?_⟩
          rw [Lib.decDigits, dif_pos (by omega), hbyte _ (by omega)]
          rfl
        · have hr0 : r.head? ≠ some 48 := by
            cases r with
            | nil => exact absurd rfl hr
            | cons b r => simpa using hh
          obtain ⟨h1, h2⟩ := ih r (by simpa using hl) m hm hr hr0
          refine ⟨by omega, ?_⟩
          rw [Lib.decDigits, dif_neg (by omega), hbyte _ (by omega)]
          rw [show (10 * m + ((d.toNat : Int) - 48)).toNat / 10 = m.toNat by omega, h2]
  exact this _ l rfl
theorem numL_back {l : List UInt8} {n : Int} (h : numL l = some n) : 1 ≤ n ∧ Lib.itoa n = l := by
  rw [numL] at h
  split at h
  · cases h
  · rename_i hn
    have hne : l ≠ [] := by rintro rfl; simp at hn
    obtain ⟨h1, h2⟩ := digs_back l n h hne (by intro e; exact hn (.inr (.inr e)))
    exact ⟨h1, by rw [itoa_dec (by omega), h2]⟩
/-! signed numbers -/
def numI : List UInt8 → Int
  | 45 :: r => -((digs 0 r).getD 0)
  | l => (digs 0 l).getD 0
theorem isD_ne {b : UInt8} {k : Nat} (h : isD b = true) (hk : k < 48 ∨ 57 < k) : b.toNat ≠ k := by
  simp [isD] at h
  omega
theorem dec_no {u : Nat} {c : UInt8} (h : c.toNat < 48 ∨ 57 < c.toNat) : c ∉ Lib.decDigits u := fun hm => isD_ne (dec_isD u _ hm) h rfl
theorem itoa_no {n : Int} {c : UInt8} (h : c.toNat < 48 ∨ 57 < c.toNat) (h45 : c ≠ 45) : c ∉ Lib.itoa n := by
  rw [Lib.itoa]
  split
  · intro hm
    rcases List.mem_cons.1 hm with rfl | hm
    · exact h45 rfl
    · exact dec_no h hm
  · exact dec_no h
theorem itoa_ne (n : Int) : Lib.itoa n ≠ [] := by
  rw [Lib.itoa]
  split
  · simp
  · exact dec_ne _
theorem dec_head45 (u : Nat) : ∀ r, Lib.decDigits u ≠ 45 :: r := fun r e => by
  have := dec_no (u := u) (c := 45) (by decide)
  rw [e] at this
  exact this List.mem_cons_self
theorem numI_itoa (n : Int) : numI (Lib.itoa n) = n := by
  rw [Lib.itoa]
  split
  · rw [numI, digs_dec]; simp; omega
  · have h := dec_head45 n.toNat
    have hd := digs_dec n.toNat
    generalize Lib.decDigits n.toNat = l at *
    rw [numI.eq_def]
    split
    · rename_i r; exact absurd rfl (h r)
    · rw [hd]; simp; omega
theorem parseUintM_dec (M : Nat) (u : Nat) : ∀ (hM : u ≤ M) (hM2 : M < 18446744073709551616), Lib.parseUintM M 0 (Lib.decDigits u) = .ok u := by
  have app : ∀ (l : List UInt8) (a u : Nat) (v : List UInt8), Lib.parseUintM M a l = .ok u → Lib.parseUintM M a (l ++ v) = Lib.parseUintM M u v := by
    intro l
    induction l with
    | nil => intro a u v h; rw [Lib.parseUintM] at h; injection h with h; subst h; rfl
    | cons b r ih =>
      intro a u v h
      rw [Lib.parseUintM] at h
      rw [List.cons_append, Lib.parseUintM]
      split at h
      · split at h
        · cases h
        · split at h
          · cases h
          · rename_i h1 h2 h3
            rw [if_pos h1, if_neg h2, if_neg h3]
            exact ih _ _ _ h
      · cases h
  have one : ∀ (a k : Nat), k < 10 → a * 10 + k ≤ M → M < 18446744073709551616 → Lib.parseUintM M a [UInt8.ofNat (48 + k)] = .ok (a * 10 + k) := by
    intro a k hk h1 h2
    have hb := dig_byte hk
    rw [Lib.parseUintM, hb, if_pos (by omega), if_neg (by omega), if_neg (by omega), Lib.parseUintM]
    congr 1
    omega
  induction u using Nat.strongRecOn with
  | _ u ih =>
    intro hM hM2
    by_cases h : u < 10
    · rw [Lib.decDigits, dif_pos h, one 0 u h (by omega) hM2]; simp
    · rw [Lib.decDigits, dif_neg h, app _ _ _ _ (ih (u / 10) (by omega) (by omega) hM2), one _ _ (Nat.mod_lt _ (by decide)) (by omega) hM2]
      congr 1
      omega
/-- ParseInt reads back what FormatInt wrote. -/
theorem parseInt_itoa {n : Int} (h1 : -9223372036854775808 ≤ n) (h2 : n ≤ 9223372036854775807) : Lib.parseIntB 64 (Lib.itoa n) = .ok n := by
  have e64 : 2 ^ 64 - 1 = 18446744073709551615 := rfl
  have e63 : 2 ^ (64 - 1) = 9223372036854775808 := rfl
  by_cases hn : n < 0
  · rw [Lib.itoa, if_pos hn, Lib.parseIntB]
    have hu : Lib.parseUintB 64 (Lib.decDigits n.natAbs) = .ok n.natAbs := by
      rw [Lib.parseUintB, if_neg (dec_ne _), e64, parseUintM_dec _ _ (by omega) (by decide)]
    simp only [show (45 : UInt8).toNat = 45 from rfl, or_true, if_true, hu, e63]
    rw [if_neg (by simp), if_neg (by omega)]
    congr 1
    omega
  · rw [Lib.itoa, if_neg hn]
    have hu : Lib.parseUintB 64 (Lib.decDigits n.toNat) = .ok n.toNat := by
      rw [Lib.parseUintB, if_neg (dec_ne _), e64, parseUintM_dec _ _ (by omega) (by decide)]
    have hd := dec_isD n.toNat
    cases hl : Lib.decDigits n.toNat with
    | nil => exact absurd hl (dec_ne _)
    | cons c r =>
      rw [hl] at hu hd
      have hc := hd c List.mem_cons_self
      have c1 := isD_ne (k := 43) hc (by omega)
      have c2 := isD_ne (k := 45) hc (by omega)
      rw [Lib.parseIntB]
      simp only [c1, c2, or_self, if_false, hu, e63]
      rw [if_neg (by omega), if_neg (by simp)]
      congr 1
      omega
end Go.Proofs.YtneiljaknmeagaaGreatDoor
