/-
  The contracts of slices.SortedFunc of slices.Values at spans, ordered by their begins. Their conditions are their hypotheses.
-/
import Derived.Test.YtloioincminhiaaDoorS2
import Derived.Test.YtloioincminhiaaDoorShelf
import Derived.Lib.OwnBridge
namespace Go.Proofs.YtloioincminhiaaDoor
open Go.RowKit Go.Joins Go.Sort
set_option linter.unusedVariables false
set_option linter.unusedSimpArgs false
instance : Inhabited Spn := ⟨⟨0, 0⟩⟩
def cmpS (x y : Spn) : Int := Lib.compareInt x.i y.i
theorem ltS (x y : Spn) : ltOf cmpS x y = decide (x.i < y.i) := by
  unfold ltOf cmpS Lib.compareInt
  by_cases h1 : x.i < y.i
  · simp [h1]
  · by_cases h2 : y.i < x.i <;> simp [h1, h2]
theorem swoS : SWO (ltOf cmpS) where
  irrefl x := by rw [ltS]; simp
  trans x y z h1 h2 := by rw [ltS] at *; simp at *; omega
  ntrans x y z h1 h2 := by rw [ltS] at *; simp at *; omega
set_option maxHeartbeats 1000000 in
theorem cmp_any (x y : Spn) (W : World) : Calls Tryd.prog 54 #[spA x, spA y] W fun e w' => e = .returned (.int .i64 (cmpS x y)) ∧ ∃ q os', w' = grow (W.drewN q) os' := by
  have hcon := fun W' => AnyG.cmp_Compare_int Tryd.cmpI x.i y.i W'
  change ∀ W', Calls Tryd.prog 55 _ _ _ at hcon
  unfold cmpS
  generalize Lib.compareInt x.i y.i = r at hcon ⊢
  go_enter Tryd.func54, Tryd.ntmps54
  go_wp2_with (go_at_call 55; refine (hcon _).mono ?_; rintro e w' ⟨rfl, rfl⟩)
  go_ret
  exact ⟨rfl, 0, _, by rw [alloc_eq_grow, alloc_eq_grow, grow_grow]; rfl⟩
theorem cmp_lays (blk off size : Nat) (w : World) : CmpLays Tryd.prog 54 #[] spV 2 cmpS blk off size w :=
  fun _ _ _ _ x y => cmp_any x y _
theorem flatK_list (ys : List Spn) : (flatK spV 2 ys.toArray).toList = ys.flatMap spV := by
  apply List.ext_getElem?
  intro t
  have hl : (ys.flatMap spV).length = ys.length * 2 := flat_len spV_len ys
  by_cases ht : t < ys.length * 2
  · have hk : t / 2 < ys.length := by omega
    have h1 : (flatK spV 2 ys.toArray)[t]! = (spV ys[t / 2])[t % 2]! := by
      rw [get_flatK _ _ _ _ (by simpa using ht)]
      simp [hk]
    have h2 := flat_get spV_len (List.getElem?_eq_getElem hk) (j := t % 2) (by omega)
    rw [show t / 2 * 2 + t % 2 = t by omega] at h2
    have ht2 : t < (flatK spV 2 ys.toArray).size := by simpa using ht
    rw [h2, Array.getElem?_toList, Array.getElem?_eq_getElem ht2, ← getElem!_pos (flatK spV 2 ys.toArray) t ht2, h1]
    have h3 : t % 2 < (spV ys[t / 2]).length := by rw [spV_len]; omega
    rw [List.getElem?_eq_getElem h3, getElem!_pos (spV ys[t / 2]) (t % 2) h3]
  · rw [List.getElem?_eq_none (by simp; omega), List.getElem?_eq_none (by rw [hl]; omega)]
theorem heap_sorted {w : World} {g q : Nat} {ys : List Spn} {os : Array Obj} (k : Nat) (hk : k < w.heap.size) (hne : k ≠ g) : (sortWorldK spV 2 w g 0 q ys.toArray os).heap[k]? = w.heap[k]? := by
  unfold sortWorldK putRowK
  rw [heap_grow_old _ _ (by simpa [putRow, mapBlock, Sort.ahead] using hk)]
  have : g ≠ k := fun e => hne e.symm
  simp [putRow, mapBlock, Sort.ahead, Array.getElem?_modify, this]
theorem size_sorted {w : World} {g q : Nat} {ys : List Spn} {os : Array Obj} : w.heap.size ≤ (sortWorldK spV 2 w g 0 q ys.toArray os).heap.size := by
  unfold sortWorldK putRowK
  simp [putRow, mapBlock, Sort.ahead, grow]
theorem own_sorted {w : World} {base g n cap q : Nat} {zs ys : List Spn} {os : Array Obj} (h : w.ownsRow base 32 2 (.slice (some ⟨g, 0, none⟩) n cap) n (zs.flatMap spV)) (hy : ys.length = n) :
    (sortWorldK spV 2 w g 0 q ys.toArray os).ownsRow base 32 2 (.slice (some ⟨g, 0, none⟩) n cap) n (ys.flatMap spV) := by
  have hlt := (h.lt g rfl).2
  rcases h.2 with ⟨e0, _⟩ | ⟨g', cap', cur, e0, hb, hg, hn, hm, hs, ht⟩
  · cases e0
  · injection e0 with e1 _ e3
    injection e1 with e1
    injection e1 with e1
    subst e1; subst e3
    refine ⟨by rw [flat_len spV_len, hy], .inr ⟨g, cap, putCells id 0 (flatK spV 2 ys.toArray) cur, rfl, hb, ?_, by omega, hm, by simpa [putCells] using hs, ?_⟩⟩
    · unfold sortWorldK putRowK
      rw [heap_grow_old _ _ (by simpa [putRow, mapBlock, Sort.ahead] using hlt)]
      simp [putRow, mapBlock, Sort.ahead, Array.getElem?_modify, hg, onCells]
    · rw [← flatK_list]
      apply List.ext_getElem?
      intro j
      rw [List.getElem?_take, Array.getElem?_toList, Array.getElem?_toList]
      by_cases hj : j < n * 2
      · have hjc : j < cur.size := by rw [hs]; have := Nat.mul_le_mul_right 2 hn; omega
        have hjf : j < (flatK spV 2 ys.toArray).size := by simp; omega
        simp only [if_pos hj, putCells, Array.getElem?_mapIdx, Array.getElem?_eq_getElem hjc, Option.map_some]
        rw [if_pos (by simp; omega), Array.getElem?_eq_getElem hjf]
        simp
        exact getElem!_pos (flatK spV 2 ys.toArray) j hjf
      · rw [if_neg hj, Array.getElem?_eq_none (by simp; omega)]
theorem holds_own {w : World} {base g n cap : Nat} {zs : List Spn} (h : w.ownsRow base 32 2 (.slice (some ⟨g, 0, none⟩) n cap) n (zs.flatMap spV)) : HoldsK spV 2 w g 0 zs.toArray := by
  rcases h.2 with ⟨e0, _⟩ | ⟨g', cap', cur, e0, hb, hg, hn, hm, hs, ht⟩
  · cases e0
  · injection e0 with e1 _ e3
    injection e1 with e1
    injection e1 with e1
    subst e1; subst e3
    have hl : zs.length * 2 = n * 2 := by rw [← flat_len spV_len, h.1]
    intro j hj
    have hj' : j < n * 2 := by simp at hj; omega
    refine ⟨?_, by simp [World.frozen?, hg]⟩
    have e1 : (cur.toList.take (n * 2))[j]? = (zs.flatMap spV)[j]? := by rw [ht]
    rw [List.getElem?_take, if_pos hj', ← flatK_list, Array.getElem?_toList, Array.getElem?_toList, Array.getElem?_eq_getElem hj] at e1
    simp only [World.cell?, hg, Nat.zero_add]
    simp only [Option.isSome_none, Bool.false_eq_true, if_false]
    rw [e1]
    simp
    exact (getElem!_pos (flatK spV 2 zs.toArray) j hj).symm
/-- What a sort leaves. -/
def SortP (base : Nat) (xs : List Spn) (W : World) (v : Value) (w' : World) : Prop := ∃ ys : List Spn, ys.Perm xs ∧ Srt ys ∧ w'.ownsRow base 32 2 v ys.length (ys.flatMap spV) ∧ Below base W w'
theorem srt_of : ∀ {ys : List Spn}, (∀ i j, i < j → j < ys.length → ltOf cmpS ys.toArray[j]! ys.toArray[i]! = false) → Srt ys
  | [], _ => trivial
  | y :: ys, h => by
    refine ⟨fun t ht => ?_, srt_of (ys := ys) (fun i j hij hj => ?_)⟩
    · obtain ⟨j, hj, rfl⟩ := List.mem_iff_getElem.1 ht
      have := h 0 (j + 1) (by omega) (by simp; omega)
      rw [ltS] at this
      simp [hj] at this
      exact this
    · have := h (i + 1) (j + 1) (by omega) (by simp; omega)
      have hi : i < ys.length := by omega
      simpa [hj, hi] using this
theorem sort_any (base g n cap : Nat) (xs : List Spn) (w : World) (hn : xs.length = n) (h : w.ownsRow base 32 2 (.slice (some ⟨g, 0, none⟩) n cap) n (xs.flatMap spV)) (hl : n ≤ 1000000) :
    Calls Tryd.prog 69 #[.slice (some ⟨g, 0, none⟩) n cap, .func (.func 54) #[] #[]] w fun e w' => e = .returned (.tuple #[]) ∧ SortP base xs w (.slice (some ⟨g, 0, none⟩) n cap) w' := by
  have eg : ∀ args w, (callFunc 54 args).run Tryd.prog w = .ok (.enter 54 args) w := enters_of Tryd.func54 (by kernel_rfl) rfl
  have hcon := AnyQ.slices_SortFunc Tryd.sortSp 2 Tryd.isAgg32 Tryd.sizeOf32 spV spV_len spV_one cmpS swoS 54 #[] g 0 cap xs.toArray w eg (cmp_lays g 0 _ w) (holds_own h) (h.lt g rfl).2 (by simp; omega)
  change Calls Tryd.prog 69 _ _ _ at hcon
  rw [show xs.toArray.size = n by simpa using hn] at hcon
  refine hcon.mono ?_
  rintro e w' ⟨rfl, d', q, os, hp, hs, rfl⟩
  obtain ⟨p1, _, p3⟩ := hp
  have hsz : d'.toList.length = n := by simp [p1, hn]
  refine ⟨rfl, d'.toList, ?_, srt_of (fun i j hij hj => hs i j (Nat.zero_le _) hij (by omega)), ?_, ?_⟩
  · have e1 : d'.extract 0 n = d' := by rw [Array.extract_eq_self_of_le (by simp [p1, hn])]
    have e2 : xs.toArray.extract 0 n = xs.toArray := by rw [Array.extract_eq_self_of_le (by simp [hn])]
    rw [e1, e2] at p3
    simpa using p3
  · have := own_sorted (q := q) (ys := d'.toList) (os := os) h hsz
    rw [hsz]
    simpa using this
  · have hb := (h.lt g rfl).1
    have := heap_sorted (w := w) (g := g) (q := q) (ys := d'.toList) (os := os)
    exact ⟨rfl, rfl, rfl, by have := size_sorted (w := w) (g := g) (q := q) (ys := d'.toList) (os := os); simpa using this, fun k hk => by
      have hw : k < w.heap.size := by have := (h.lt g rfl).2; omega
      have := this k hw (by omega)
      simpa using this⟩
end Go.Proofs.YtloioincminhiaaDoor
