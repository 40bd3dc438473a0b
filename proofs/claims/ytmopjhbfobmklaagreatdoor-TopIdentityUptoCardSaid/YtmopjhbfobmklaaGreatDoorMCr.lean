/-
  Sorted numbers; what Shows computes. The conditions of the contracts are their hypotheses.
-/
import Derived.Test.YtmopjhbfobmklaaGreatDoorMP4
import Derived.Test.YtmopjhbfobmklaaGreatDoorShelh
import Derived.Sort.OwnSortedInts
import Derived.Lib.OwnBridge
import Derived.Lib.RowBridge
import Derived.Test.YtmopjhbfobmklaaGreatDoorMCh
import Derived.Test.YtmopjhbfobmklaaGreatDoorMP6
set_option maxRecDepth 100000
set_option maxHeartbeats 40000000
namespace Go.Proofs.YtmopjhbfobmklaaGreatDoor
open Go.RowKit Go.Joins Go.Sort
set_option linter.unusedVariables false
set_option linter.unusedSimpArgs false
abbrev sortI (zs : List Int) : List Int := zs.mergeSort fun x y => decide (x ≤ y)
theorem sortI_any (base : Nat) (v : Value) (zs : List Int) (w : World) (h : w.ownsRow base 2 1 v zs.length (zs.map (.int .i64))) (hB : base ≤ w.heap.size) (hl : zs.length ≤ 2000000) :
  Calls Tryz.prog 50 #[v] w fun e w' => e = .returned (.tuple #[]) ∧ w'.ownsRow base 2 1 v zs.length ((sortI zs).map (.int .i64)) ∧ Below base w w' := by
 rcases h.2 with ⟨e0, e1⟩ | ⟨g, cap, cur, rfl, hb, hg, hn, hm, hs, ht⟩
 ·obtain rfl : zs = [] := by simpa using e1
  subst e0
  have hcon := Tryz.slices_Sort_int_none none 0 w
  refine hcon.mono ?_
  rintro e w' ⟨rfl, rfl⟩
  exact ⟨rfl, by rw [show sortI [] = [] by simp]; exact h, Below.refl _ _⟩
 have hlt : g < w.heap.size := (Array.getElem?_eq_some_iff.1 hg).1
 have hcon := Tryz.slices_Sort_int g 0 cap zs w (holds_of_blockI hg (by simpa using ht)) hlt (by omega)
 refine hcon.mono ?_
 rintro e w' ⟨rfl, n, os, rfl⟩
 refine ⟨rfl, ownsRow_sortedI (by simp) hb hg hn hm hs, (Below.refl _ _).grown (grownBy_sortedI _) hB (fun k hk => by cases hk; exact hb)⟩
theorem compI_any (base : Nat) (v : Value) (zs : List Int) (w : World) (h : w.ownsRow base 2 1 v zs.length (zs.map (.int .i64))) (hB : base ≤ w.heap.size) (hl : zs.length ≤ 2000000) :
  Calls Tryz.prog 51 #[v] w fun e w' => (∃ u, e = .returned u ∧ w'.ownsRow base 2 1 u (Lib.compact zs).length ((Lib.compact zs).map (.int .i64))) ∧ Below base w w' := by
 have h' := h
 rcases h.2 with ⟨e0, e1⟩ | ⟨g, cap, cur, rfl, hb, hg, hn, hm, hs, ht⟩
 ·obtain rfl : zs = [] := by simpa using e1
  subst e0
  have hcon := Tryz.slices_Compact_int_empty none 0 w
  refine hcon.mono ?_
  rintro e w' ⟨rfl, rfl⟩
  exact ⟨⟨_, rfl, h⟩, Below.refl _ _⟩
 have hcon := Tryz.slices_Compact_int g 0 cap zs w (holds_of_blockI hg (by simpa using ht)) (by omega) hn
 refine hcon.mono ?_
 rintro e w' ⟨rfl, q, rfl⟩
 refine ⟨⟨_, rfl, ?_⟩, Lib.below_putRow (Below.refl _ _) hb⟩
 have hk : (Lib.compact zs).length ≤ zs.length := Lib.compact_length_le zs
 have := Lib.ownsRow_putRow (enc := Value.int .i64) (q := q) (k := (Lib.compact zs).length) (ys := Lib.compact zs ++ List.replicate (zs.length - (Lib.compact zs).length) 0) h' (by simp; omega) hk
 rwa [List.take_left] at this
open Go.RowKit Go.Joins
structure Shw where
 i : Int
 o : Int
 g : List Gl
def shwStep (S : List Gl) (a b : Int) (out : List Shw) : List Shw :=
 if S.length = 0 then out else
 match out.getLast? with
 | none => out ++ [⟨a, b, S⟩]
 | some l => if l.o = a ∧ l.g = S then out.dropLast ++ [⟨l.i, b, l.g⟩] else out ++ [⟨a, b, S⟩]
def shwK (f : Int → List Gl) (T : List Int) : Nat → List Shw
 | 0 => []
 | k + 1 => shwStep (f (T.getD k 0)) (T.getD k 0) (T.getD (k + 1) 0) (shwK f T k)
theorem shwStep_len (S : List Gl) (a b : Int) (out : List Shw) : (shwStep S a b out).length ≤ out.length + 1 := by
 unfold shwStep
 split
 ·omega
 split
 ·simp
 split
 ·rw [List.length_append, List.length_dropLast, List.length_singleton]; omega
 simp
theorem shwK_len (f : Int → List Gl) (T : List Int) : ∀ k, (shwK f T k).length ≤ k
 | 0 => Nat.le_refl _
 | k + 1 => Nat.le_trans (shwStep_len _ _ _ _) (by have := shwK_len f T k; omega)
theorem scrV_len2 (regs : List Rg) (E : List Ev) (f : Int) : (scrV regs E f).length ≤ 1000000 := by
 unfold scrV scrL
 refine Nat.le_trans (List.length_filter_le _ _) ?_
 rw [gridL_len]
 decide
def tmsE (E : List Ev) : List Int := E.flatMap fun x => [x.i, x.o]
theorem tmsE_len : ∀ (E : List Ev), (tmsE E).length = 2 * E.length
 | [] => rfl
 | x :: t => by
  unfold tmsE
  rw [List.flatMap_cons, List.length_append]
  have := tmsE_len t
  unfold tmsE at this
  rw [this, List.length_cons]
  simp
  omega
theorem tmsE_step {E : List Ev} {k : Nat} {x : Ev} (h : E[k]? = some x) : tmsE (E.take (k + 1)) = tmsE (E.take k) ++ [x.i, x.o] := by
 rw [List.take_add_one, h]
 unfold tmsE
 rw [List.flatMap_append]
 rfl
def tmsS (E : List Ev) : List Int := Lib.compact (sortI (tmsE E))
def shwV (regs : List Rg) (E : List Ev) : List Shw := shwK (scrV regs E) (tmsS E) ((tmsS E).length - 1)
theorem tmsE_spans : ∀ {E F : List Ev}, E.map evS = F.map evS → tmsE E = tmsE F
 | [], [], _ => rfl
 | x :: t, y :: u, h => by
  rw [List.map_cons, List.map_cons] at h
  injection h with h1 h2
  have e := tmsE_spans h2
  unfold tmsE at e ⊢
  rw [List.flatMap_cons, List.flatMap_cons, e]
  unfold evS at h1
  injection h1 with h3 h4
  rw [h3, h4]
 | [], _ :: _, h => by cases h
 | _ :: _, [], h => by cases h
theorem shwV_same {R S : List Rg} {E F : List Ev} (h : E.map evS = F.map evS) (hs : ∀ f, scrV R E f = scrV S F f) : shwV R E = shwV S F := by
 unfold shwV tmsS
 rw [tmsE_spans h, show scrV R E = scrV S F from funext hs]
def IsGl (t : TypeId) : Prop := t = 112
def ShwC (w : World) (cs : List Value) (x : Shw) : Prop := ∃ g, cs = [.int .i64 x.i, .int .i64 x.o, g] ∧ SeqT w 112 6 (Flat Gl.cs) g x.g
theorem ShwC.keep {w w' : World} {cs : List Value} {x : Shw} (h : ShwC w cs x) (hk : KeepS IsGl w w') : ShwC w' cs x := by
 obtain ⟨g, e, h⟩ := h
 exact ⟨g, e, SeqT.keep (S := IsGl) h rfl hk (fun _ _ h => h)⟩
abbrev ShI (w : World) (B : Nat) (v : Value) (xs : List Shw) : Prop := OwnS w B 87 3 ShwC v xs
theorem ShI.ext {w w' : World} {B : Nat} {v : Value} {xs : List Shw} (h : ShI w B v xs) (hb : Below w.heap.size w w') : ShI w' B v xs := by
 obtain ⟨cs, h1, h2⟩ := h
 exact ⟨cs, Al2.mono (fun c x hc => hc.keep (KeepS.ext hb)) h1, own_ext h2 hb⟩
theorem ShI.low {w : World} {B B' : Nat} {v : Value} {xs : List Shw} (h : ShI w B v xs) (hb : B' ≤ B) : ShI w B' v xs := by
 obtain ⟨cs, h1, h2⟩ := h
 exact ⟨cs, h1, ownsRow_mono h2 hb⟩
theorem own_set {w : World} {base : Nat} {e : TypeId} {sz : Nat} {v : Value} {n g : Nat} {xs : List Value} (h : w.ownsRow base e sz v n xs) (hv : v.ownBlock = some g) (j : Nat) (u : Value) : (w.setCell ⟨g, j, none⟩ u).ownsRow base e sz v n (xs.set j u) := by
 rcases h.2 with ⟨e0, _⟩ | ⟨g', cap, cur, e0, hb, hg, hn, hm, hs, ht⟩
 ·rw [e0] at hv
  cases hv
 rw [e0] at hv
 cases hv
 exact ⟨by rw [List.length_set]; exact h.1, .inr ⟨_, cap, _, e0, hb, heap_put hg j u, hn, hm, by rw [Array.size_setIfInBounds]; exact hs, by rw [Array.toList_setIfInBounds, List.take_set, ht]⟩⟩
theorem ShI.app {w w' : World} {B : Nat} {v' : Value} {xs : List Shw} {x : Shw} {g : Value} {cs : List (List Value)} (h1 : Al2 (ShwC w) 3 cs xs) (hk : KeepS IsGl w w') (hg : SeqT w 112 6 (Flat Gl.cs) g x.g)
  (ho : w'.ownsRow B 87 3 v' (xs.length + 1) (cs.flatten ++ [.int .i64 x.i, .int .i64 x.o, g])) : ShI w' B v' (xs ++ [x]) := by
 refine ⟨cs ++ [[.int .i64 x.i, .int .i64 x.o, g]], (h1.mono (fun c y hc => hc.keep hk)).app (Al2.one rfl ⟨g, rfl, SeqT.keep (S := IsGl) hg rfl hk (fun _ _ h => h)⟩), ?_⟩
 rw [List.length_append, List.flatten_append]
 simpa using ho
theorem ShI.last {w : World} {B : Nat} {v : Value} {xs : List Shw} {l : Shw} (h : ShI w B v (xs ++ [l])) :
  ∃ g c gv, v = .slice (some ⟨g, 0, none⟩) (xs.length + 1) c ∧ B ≤ g ∧ g < w.heap.size ∧ (∃ cur, w.heap[g]? = some (.cells cur 87 (0, 0))) ∧ w.cell? ⟨g, xs.length * 3, none⟩ = some (.int .i64 l.i) ∧ w.cell? ⟨g, xs.length * 3 + 1, none⟩ = some (.int .i64 l.o) ∧ w.cell? ⟨g, xs.length * 3 + 2, none⟩ = some gv ∧ SeqT w 112 6 (Flat Gl.cs) gv l.g := by
 obtain ⟨A, c, h1, h2, h3, h4⟩ := OwnS.seq h (by decide)
 obtain ⟨b, o, cs, e1, ⟨⟨cur, e2⟩, e3, e4⟩, e5, e6, gv, rfl, e7⟩ := h4 xs.length l (by simp)
 subst e4
 subst e1
 have q0 := e6 0 _ rfl
 have q1 := e6 1 _ rfl
 have q2 := e6 2 _ rfl
 rw [Nat.zero_add] at q0 q1 q2
 rw [List.length_append] at h1
 exact ⟨b, c, gv, h1, e3, (Array.getElem?_eq_some_iff.1 e2).1, ⟨cur, e2⟩, q0, q1, q2, e7⟩
theorem ShI.turn {w : World} {B g : Nat} {v : Value} {xs : List Shw} {l : Shw} (h : ShI w B v (xs ++ [l])) (hv : v.ownBlock = some g) (hg : ∃ cur, w.heap[g]? = some (.cells cur 87 (0, 0))) (b : Int) : ShI (w.setCell ⟨g, xs.length * 3 + 1, none⟩ (.int .i64 b)) B v (xs ++ [⟨l.i, b, l.g⟩]) := by
 obtain ⟨cs, h1, h2⟩ := h
 obtain ⟨cur, hcur⟩ := hg
 have hk : KeepS IsGl w (w.setCell ⟨g, xs.length * 3 + 1, none⟩ (.int .i64 b)) := KeepS.put hcur (by unfold IsGl; decide) _ _
 obtain ⟨c1, c2, rfl, a1, a2⟩ := Al2.split h1
 match c2, a2 with
 | [c], a2 =>
  obtain ⟨⟨hl, gv, rfl, hgv⟩, _⟩ := a2
  refine ⟨c1 ++ [[.int .i64 l.i, .int .i64 b, gv]], (a1.mono (fun c y hc => hc.keep hk)).app (Al2.one rfl ⟨gv, rfl, SeqT.keep (S := IsGl) hgv rfl hk (fun _ _ h => h)⟩), ?_⟩
  have := own_set h2 hv (xs.length * 3 + 1) (.int .i64 b)
  have hfl := a1.flat
  rw [List.length_append] at this ⊢
  rw [List.flatten_append, List.set_append_right _ _ (by omega), hfl] at this
  rw [List.flatten_append]
  simpa using this
theorem ints_get {w : World} {B : Nat} {v : Value} {T : List Int} (h : w.ownsRow B 2 1 v T.length (T.map (.int .i64))) (h0 : 0 < T.length) :
  ∃ g c, v = .slice (some ⟨g, 0, none⟩) T.length c ∧ B ≤ g ∧ g < w.heap.size ∧ T.length ≤ c ∧ c ≤ maxLen ∧ ∀ k, k < T.length → w.cell? ⟨g, k, none⟩ = some (.int .i64 (T.getD k 0)) := by
 rcases h.2 with ⟨e0, e1⟩ | ⟨g, cap, cur, e0, hb, hg, hn, hm, _⟩
 ·have : T = [] := by simpa using e1
  rw [this] at h0
  simp at h0
 refine ⟨g, cap, e0, hb, (Array.getElem?_eq_some_iff.1 hg).1, hn, hm, fun k hk => ?_⟩
 have := h.cells (g := g) (by rw [e0]; rfl) k (.int .i64 (T.getD k 0)) (by simp [List.getD, List.getElem?_eq_getElem hk])
 rw [Addr.add_lit] at this
 simpa using this
end Go.Proofs.YtmopjhbfobmklaaGreatDoor
