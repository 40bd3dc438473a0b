/-
  Own rows and the builder. The conditions of the contracts are their hypotheses.
-/
import Derived.Test.YtmopjhbfobmklaaGreatDoorMCs
import Derived.Test.YtmopjhbfobmklaaGreatDoorMCm
import Derived.Laws.Externs
import Derived.Lib.Builder
import Derived.Shelf.Strings.Builder1
set_option maxRecDepth 100000
set_option maxHeartbeats 40000000
namespace Go.Proofs.YtmopjhbfobmklaaGreatDoor
open Go.RowKit Go.Joins
set_option linter.unusedVariables false
set_option linter.unusedSimpArgs false
theorem own_block {w : World} {base : Nat} {e : TypeId} {size : Nat} {v : Value} {n : Nat} {xs : List Value} (h : w.ownsRow base e size v n xs) {g : Nat} (hg : v.ownBlock = some g) : ∃ cur, w.heap[g]? = some (.cells cur e (0, 0)) := by
 rcases h.2 with ⟨rfl, _⟩ | ⟨g', cap, cur, rfl, _, hh, _⟩
 ·cases hg
 cases hg; exact ⟨cur, hh⟩
theorem own_same {w w' : World} {base : Nat} {e : TypeId} {size : Nat} {v : Value} {n : Nat} {xs : List Value} (h : w.ownsRow base e size v n xs) (hs : ∀ g, v.ownBlock = some g → w'.heap[g]? = w.heap[g]?) : w'.ownsRow base e size v n xs := by
 refine ⟨h.1, h.2.imp id ?_⟩
 rintro ⟨g, cap, cur, rfl, hb, hh, r⟩
 exact ⟨g, cap, cur, rfl, hb, (hs g rfl).trans hh, r⟩
theorem own_put {w : World} {base : Nat} {e : TypeId} {size : Nat} {v : Value} {n : Nat} {xs : List Value} (h : w.ownsRow base e size v n xs) {p : Nat} (hne : v.ownBlock ≠ some p) (i : Nat) (u : Value) : (w.setCell ⟨p, i, none⟩ u).ownsRow base e size v n xs :=
 own_same h fun g hg => Below.heap_setCell w ⟨p, i, none⟩ u g (fun e => hne (by rw [hg, e]))
theorem own_ext {w w' : World} {base : Nat} {e : TypeId} {size : Nat} {v : Value} {n : Nat} {xs : List Value} (h : w.ownsRow base e size v n xs) (hb : Below w.heap.size w w') : w'.ownsRow base e size v n xs :=
 own_same h fun g hg => hb.block g (h.lt g hg).2
theorem heap_put {w : World} {p : Nat} {cs : Array Value} {t : TypeId} (h : w.heap[p]? = some (.cells cs t (0, 0))) (i : Nat) (u : Value) : (w.setCell ⟨p, i, none⟩ u).heap[p]? = some (.cells (cs.setIfInBounds i u) t (0, 0)) := by
 rw [block_setCell h u]
theorem i5 : (Tryz.prog.info? 5).map (fun i => (i.zero, i.size, i.bytes)) = some (some (.int .u8 0), 1, 1) := by kernel_rfl
def KeepO (w w' : World) : Prop := ∀ (g : Nat) (cs : Array Value) (t : TypeId), t ≠ 5 → t ≠ 249 → w.heap[g]? = some (.cells cs t (0, 0)) → w'.heap[g]? = some (.cells cs t (0, 0))
theorem KeepO.refl (w : World) : KeepO w w := fun _ _ _ _ _ h => h
theorem KeepO.trans {a b c : World} (h : KeepO a b) (k : KeepO b c) : KeepO a c := fun g cs t h1 h2 h3 => k g cs t h1 h2 (h g cs t h1 h2 h3)
theorem KeepO.ext {w w' : World} (hb : Below w.heap.size w w') : KeepO w w' := fun g cs t _ _ h => (hb.block g (Array.getElem?_eq_some_iff.1 h).1).trans h
theorem KeepO.put {w : World} {b : Nat} {cs0 : Array Value} (hb : w.heap[b]? = some (.cells cs0 249 (0, 0))) (i : Nat) (u : Value) : KeepO w (w.setCell ⟨b, i, none⟩ u) := by
 intro g cs t h1 h2 h3
 refine (Below.heap_setCell w ⟨b, i, none⟩ u g ?_).trans h3
 show g ≠ b
 rintro rfl
 rw [hb] at h3
 cases h3
 exact h2 rfl
theorem KeepO.grown {w w' : World} {B : Nat} {v : Value} {n : Nat} {xs : List Value} (ho : w.ownsRow B 5 1 v n xs) (hg : w.grownBy w' v.ownBlock) : KeepO w w' := by
 intro g cs t h1 h2 h3
 refine (hg.block g (Array.getElem?_eq_some_iff.1 h3).1 ?_).trans h3
 intro e
 obtain ⟨cur, hc⟩ := own_block ho e.symm
 rw [h3] at hc
 cases hc
 exact h1 rfl
abbrev BldI (B b : Nat) (l : List UInt8) (w : World) : Prop := Lib.IsBuilder 249 5 B b (Lib.byteCells l) w
abbrev BldA (B b : Nat) (l : List UInt8) (w : World) : Prop := Lib.BuilderAt 249 5 B b (.pointer (some ⟨b, 0, none⟩)) (Lib.byteCells l) w
theorem szB : (Tryz.prog.info? 249).map (·.size) = some 2 := by kernel_rfl
theorem liesB : liesAt Tryz.prog Tryz.prog.depth 249 (2 / Tryz.prog.cellsOf 249) 0 249 1 = true := by kernel_rfl
theorem uPB : Tryz.prog.underlying 246 = some (.pointer 249) := by kernel_rfl
theorem uUP : Tryz.prog.underlying 283 = some .unsafePointer := by kernel_rfl
theorem copy_any (B b : Nat) (l : List UInt8) (w : World) (h : BldI B b l w) :
  Calls Tryz.prog 181 #[.pointer (some ⟨b, 0, none⟩)] w fun e w' => e = .returned (.tuple #[]) ∧ BldA B b l w' ∧ Below B w w' ∧ KeepO w w' := by
 obtain ⟨j, hj, hjs⟩ := Option.map_eq_some_iff.1 szB
 rcases h with h | h
 ·have h0 := h.cell0
  have hsh := h.shape
  have hfz := h.frozen0
  have H := ι h
  clear h
  have e1 : (convert 246 283 (.pointer (some ⟨b, 0, none⟩))).run Tryz.prog w = .ok (.pointer (some ⟨b, 0, none⟩)) w := Lib.run_to_unsafe w ⟨b, 0, none⟩ uPB uUP hj (by rw [hjs]; decide) hsh (Nat.zero_lt_succ 1)
  have e2 : (convert 283 246 (.pointer (some ⟨b, 0, none⟩))).run Tryz.prog w = .ok (.pointer (some ⟨b, 0, none⟩)) w := Lib.run_from_unsafe w ⟨b, 0, none⟩ uUP uPB hj hsh liesB
  have e3 : (callFunc 197 #[.pointer (some ⟨b, 0, none⟩)]).run Tryz.prog w = .ok (.value (.pointer (some ⟨b, 0, none⟩))) w := by
   rw [run_callFunc_extern Tryz.func197 (by kernel_rfl) (by kernel_rfl) (by kernel_rfl) (e := Extern.AbiNoEscape.same) (by kernel_rfl), Lib.run_noEscape]
   rfl
  go_enter Tryz.func181, Tryz.ntmps181
  go_wp2_with fail
  go_end0
  obtain ⟨_, v9, hb9, _⟩ := H.out
  exact ⟨rfl, H.out.used _, (Below.refl B w).setCell (p := ⟨b, 0, none⟩) H.out.1 _, KeepO.put hb9 _ _⟩
 have h0 := h.cell0
 have H := ι h
 clear h
 have e1 := Lib.run_neq_ptr_same (P := Tryz.prog) w ⟨b, 0, none⟩ uPB hj
 go_enter Tryz.func181, Tryz.ntmps181
 go_wp2_with fail
 go_end0
 exact ⟨rfl, H.out, Below.refl B _, KeepO.refl _⟩
theorem byteCells_app (l r : List UInt8) : Lib.byteCells (l ++ r) = Lib.byteCells l ++ Lib.byteCells r := by simp [Lib.byteCells]
theorem bld_one {B b : Nat} {l : List UInt8} {w : World} (h : BldA B b l w) : BldI B b l w := .inr h
theorem BldA.block {B b : Nat} {l : List UInt8} {w : World} (h : BldA B b l w) : ∃ v, w.heap[b]? = some (.cells #[.pointer (some ⟨b, 0, none⟩), v] 249 (0, 0)) ∧ w.ownsRow B 5 1 v l.length (Lib.byteCells l) ∧ v.ownBlock ≠ some b := by
 obtain ⟨_, v, h1, h2, h3⟩ := h
 rw [Lib.byteCells_length] at h2
 exact ⟨v, h1, h2, h3⟩
theorem wstr_any (B b : Nat) (l : List UInt8) (s : ByteArray) (w : World) (h : BldI B b l w) (hl : l.length ≤ 1000000000) (hs : s.size ≤ 1000000000) (h0 : 0 < s.size) (hBw : B ≤ w.heap.size) :
  Calls Tryz.prog 158 #[.pointer (some ⟨b, 0, none⟩), .string s] w fun e w' => e = .returned (.tuple #[.int .i64 s.size, .nilIface]) ∧ BldA B b (l ++ s.data.toList) w' ∧ Below B w w' ∧ KeepO w w' := by
 obtain ⟨i0, hi, hz0, hz1, hz2⟩ := info_parts i5
 have HI0 := ι (And.intro hi (And.intro hz0 (And.intro hz1 hz2)))
 have H := ι h
 clear hi hz0 hz1 hz2 h
 go_enter Tryz.func158, Tryz.ntmps158
 go_wp2_with fail
 refine (copy_any B b l _ H.out).mono ?_
 rintro e w1 ⟨rfl, h1, hb1, hk1⟩
 obtain ⟨v, hbk, hown, hne⟩ := h1.block
 have HK := ι hbk
 have HO := ι hown
 have HN := ι hne
 have HB := ι (And.intro h1.1 hb1)
 have HK1 := ι hk1
 clear hk1
 have hsz := Nat.le_trans hBw hb1.size
 have c0 : w1.cell? ⟨b, 0, none⟩ = some (.pointer (some ⟨b, 0, none⟩)) := by rw [Lib.cell_of_heap hbk]; rfl
 have c1 : w1.cell? ⟨b, 1, none⟩ = some v := by rw [Lib.cell_of_heap hbk]; rfl
 clear hbk hown hne h1 hb1
 go_wp2_with (at_builtin; refine Lib.wpList_append_own_string _ rfl _ _ 247 9 rfl B 5 i0 Tryz.underlying247 Tryz.underlying9 HI0.out.1 HI0.out.2.1 HI0.out.2.2.1 HI0.out.2.2.2 v l.length (Lib.byteCells l) rfl HO.out s rfl (by simp only [maxLen]; omega) (by omega) hsz ?_)
 intro v' w2 hown' hgrow _
 have hlt : b < w1.heap.size := (Array.getElem?_eq_some_iff.1 HK.out).1
 have hb2 : w2.heap[b]? = some (.cells #[.pointer (some ⟨b, 0, none⟩), v] 249 (0, 0)) := by
  rw [hgrow.block b hlt (fun e => HN.out e.symm)]
  exact HK.out
 have d0 : w2.cell? ⟨b, 0, none⟩ = some (.pointer (some ⟨b, 0, none⟩)) := by rw [Lib.cell_of_heap hb2]; rfl
 have d1 : w2.cell? ⟨b, 1, none⟩ = some v := by rw [Lib.cell_of_heap hb2]; rfl
 have f1 : w2.frozen? ⟨b, 1, none⟩ = false := Lib.frozen_of_heap hb2 1
 obtain ⟨g, cap, rfl, _, _⟩ := hown'.form (by omega)
 have HR := ι (show BldA B b (l ++ s.data.toList) (w2.setCell ⟨b, 1, none⟩ (.slice (some ⟨g, 0, none⟩) (l.length + s.size) cap)) from Lib.BuilderAt.put HB.out.1 hb2 (by rw [byteCells_app, List.length_append, Lib.byteCells_length, show (Lib.byteCells s.data.toList).length = s.size by rw [Lib.byteCells_length]; simp]; exact hown') (by decide))
 have HG := ι (show Below B w (w2.setCell ⟨b, 1, none⟩ (.slice (some ⟨g, 0, none⟩) (l.length + s.size) cap)) from (HB.out.2.grown hgrow hsz (own_base HO.out)).setCell (p := ⟨b, 1, none⟩) HB.out.1 _)
 have HKK := ι ((HK1.out.trans (KeepO.grown HO.out hgrow)).trans (KeepO.put hb2 1 (.slice (some ⟨g, 0, none⟩) (l.length + s.size) cap)))
 clear hown' hgrow hb2
 go_wp2_with fail
 go_ret2
 exact ⟨rfl, HR.out, HG.out, HKK.out⟩
theorem BldI.ext {B b : Nat} {l : List UInt8} {w w' : World} (h : BldI B b l w) (hb : Below w.heap.size w w') : BldI B b l w' := by
 rcases h with h | h
 ·obtain ⟨h1, v, h2, h3, h4⟩ := h
  exact .inl ⟨h1, v, (hb.block b (Array.getElem?_eq_some_iff.1 h2).1).trans h2, ownsRow_below h3 hb (Nat.le_refl _), h4⟩
 obtain ⟨h1, v, h2, h3, h4⟩ := h
 exact .inr ⟨h1, v, (hb.block b (Array.getElem?_eq_some_iff.1 h2).1).trans h2, ownsRow_below h3 hb (Nat.le_refl _), h4⟩
theorem BldI.lt {B b : Nat} {l : List UInt8} {w : World} (h : BldI B b l w) : b < w.heap.size := by rcases h with h | h <;> exact h.lt
end Go.Proofs.YtmopjhbfobmklaaGreatDoor
