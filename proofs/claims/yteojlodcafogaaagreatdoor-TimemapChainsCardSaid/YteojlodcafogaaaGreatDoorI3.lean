/-
  The contracts of slices.SortedFunc of slices.Values at pieces, ordered by their begins. Their conditions are their hypotheses.
-/
import Derived.Test.YteojlodcafogaaaGreatDoorI2
import Derived.Test.YteojlodcafogaaaGreatDoorShelf
import Derived.Lib.OwnBridge
namespace Go.Proofs.YteojlodcafogaaaGreatDoor
open Go.RowKit Go.Joins Go.Sort
set_option linter.unusedVariables false
set_option linter.unusedSimpArgs false
instance : Inhabited Pc := ⟨⟨0, 0, 0, 0, 0⟩⟩
def cmpQ (x y : Pc) : Int := Lib.compareInt x.i y.i
theorem ltQ (x y : Pc) : ltOf cmpQ x y = decide (x.i < y.i) := by
  unfold ltOf cmpQ Lib.compareInt
  by_cases h1 : x.i < y.i
  · simp [h1]
  · by_cases h2 : y.i < x.i <;> simp [h1, h2]
theorem swoQ : SWO (ltOf cmpQ) where
  irrefl x := by rw [ltQ]; simp
  trans x y z h1 h2 := by rw [ltQ] at *; simp at *; omega
  ntrans x y z h1 h2 := by rw [ltQ] at *; simp at *; omega
set_option maxHeartbeats 1000000 in
theorem cmpj_any (x y : Pc) (W : World) : Calls Tryz.prog 90 #[pcA x, pcA y] W fun e w' => e = .returned (.int .i64 (cmpQ x y)) ∧ ∃ q os', w' = grow (W.drewN q) os' := by
  have hcon := fun W' => AnyG.cmp_Compare_int Tryz.cmpI x.i y.i W'
  change ∀ W', Calls Tryz.prog 61 _ _ _ at hcon
  unfold cmpQ
  generalize Lib.compareInt x.i y.i = r at hcon ⊢
  go_enter Tryz.func90, Tryz.ntmps90
  go_wp2_with (go_at_call 61; refine (hcon _).mono ?_; rintro e w' ⟨rfl, rfl⟩)
  go_ret
  exact ⟨rfl, 0, _, by rw [alloc_eq_grow, alloc_eq_grow, grow_grow]; rfl⟩
set_option maxHeartbeats 1000000 in
theorem cmpv_any (x y : Pc) (W : World) : Calls Tryz.prog 60 #[pcA x, pcA y] W fun e w' => e = .returned (.int .i64 (cmpQ x y)) ∧ ∃ q os', w' = grow (W.drewN q) os' := by
  have hcon := fun W' => AnyG.cmp_Compare_int Tryz.cmpI x.i y.i W'
  change ∀ W', Calls Tryz.prog 61 _ _ _ at hcon
  unfold cmpQ
  generalize Lib.compareInt x.i y.i = r at hcon ⊢
  go_enter Tryz.func60, Tryz.ntmps60
  go_wp2_with (go_at_call 61; refine (hcon _).mono ?_; rintro e w' ⟨rfl, rfl⟩)
  go_ret
  exact ⟨rfl, 0, _, by rw [alloc_eq_grow, alloc_eq_grow, grow_grow]; rfl⟩
/-- A function that compares two pieces by their begins. -/
structure CmpF (F : Nat) : Prop where
  enters : ∀ args w, (callFunc F args).run Tryz.prog w = .ok (.enter F args) w
  cmp : ∀ x y W, Calls Tryz.prog F #[pcA x, pcA y] W fun e w' => e = .returned (.int .i64 (cmpQ x y)) ∧ ∃ q os', w' = grow (W.drewN q) os'
theorem cmpJ : CmpF 90 := ⟨enters_of Tryz.func90 (by kernel_rfl) rfl, cmpj_any⟩
theorem cmpV : CmpF 60 := ⟨enters_of Tryz.func60 (by kernel_rfl) rfl, cmpv_any⟩
theorem CmpF.lays {F : Nat} (h : CmpF F) (blk off size : Nat) (w : World) : CmpLays Tryz.prog F #[] pcV 5 cmpQ blk off size w :=
  fun _ _ _ _ x y => h.cmp x y _
theorem flatKp_list (ys : List Pc) : (flatK pcV 5 ys.toArray).toList = ys.flatMap pcV := by
  apply List.ext_getElem?
  intro t
  have hl : (ys.flatMap pcV).length = ys.length * 5 := flat_len pcV_len ys
  by_cases ht : t < ys.length * 5
  · have hk : t / 5 < ys.length := by omega
    have h1 : (flatK pcV 5 ys.toArray)[t]! = (pcV ys[t / 5])[t % 5]! := by
      rw [get_flatK _ _ _ _ (by simpa using ht)]
      simp [hk]
    have h2 := flat_get pcV_len (List.getElem?_eq_getElem hk) (j := t % 5) (by omega)
    rw [show t / 5 * 5 + t % 5 = t by omega] at h2
    have ht2 : t < (flatK pcV 5 ys.toArray).size := by simpa using ht
    rw [h2, Array.getElem?_toList, Array.getElem?_eq_getElem ht2, ← getElem!_pos (flatK pcV 5 ys.toArray) t ht2, h1]
    have h3 : t % 5 < (pcV ys[t / 5]).length := by rw [pcV_len]; omega
    rw [List.getElem?_eq_getElem h3, getElem!_pos (pcV ys[t / 5]) (t % 5) h3]
  · rw [List.getElem?_eq_none (by simp; omega), List.getElem?_eq_none (by rw [hl]; omega)]
theorem heapp_sorted {w : World} {g q : Nat} {ys : List Pc} {os : Array Obj} (k : Nat) (hk : k < w.heap.size) (hne : k ≠ g) : (sortWorldK pcV 5 w g 0 q ys.toArray os).heap[k]? = w.heap[k]? := by
  unfold sortWorldK putRowK
  rw [heap_grow_old _ _ (by simpa [putRow, mapBlock, Sort.ahead] using hk)]
  have : g ≠ k := fun e => hne e.symm
  simp [putRow, mapBlock, Sort.ahead, Array.getElem?_modify, this]
theorem sizep_sorted {w : World} {g q : Nat} {ys : List Pc} {os : Array Obj} : w.heap.size ≤ (sortWorldK pcV 5 w g 0 q ys.toArray os).heap.size := by
  unfold sortWorldK putRowK
  simp [putRow, mapBlock, Sort.ahead, grow]
theorem ownp_sorted {w : World} {base g n cap q : Nat} {zs ys : List Pc} {os : Array Obj} (h : w.ownsRow base 57 5 (.slice (some ⟨g, 0, none⟩) n cap) n (zs.flatMap pcV)) (hy : ys.length = n) :
    (sortWorldK pcV 5 w g 0 q ys.toArray os).ownsRow base 57 5 (.slice (some ⟨g, 0, none⟩) n cap) n (ys.flatMap pcV) := by
  have hlt := (h.lt g rfl).2
  rcases h.2 with ⟨e0, _⟩ | ⟨g', cap', cur, e0, hb, hg, hn, hm, hs, ht⟩
  · cases e0
  · injection e0 with e1 _ e3
    injection e1 with e1
    injection e1 with e1
    subst e1; subst e3
    refine ⟨by rw [flat_len pcV_len, hy], .inr ⟨g, cap, putCells id 0 (flatK pcV 5 ys.toArray) cur, rfl, hb, ?_, by omega, hm, by simpa [putCells] using hs, ?_⟩⟩
    · unfold sortWorldK putRowK
      rw [heap_grow_old _ _ (by simpa [putRow, mapBlock, Sort.ahead] using hlt)]
      simp [putRow, mapBlock, Sort.ahead, Array.getElem?_modify, hg, onCells]
    · rw [← flatKp_list]
      apply List.ext_getElem?
      intro j
      rw [List.getElem?_take, Array.getElem?_toList, Array.getElem?_toList]
      by_cases hj : j < n * 5
      · have hjc : j < cur.size := by rw [hs]; have := Nat.mul_le_mul_right 5 hn; omega
        have hjf : j < (flatK pcV 5 ys.toArray).size := by simp; omega
        simp only [if_pos hj, putCells, Array.getElem?_mapIdx, Array.getElem?_eq_getElem hjc, Option.map_some]
        rw [if_pos (by simp; omega), Array.getElem?_eq_getElem hjf]
        simp
        exact getElem!_pos (flatK pcV 5 ys.toArray) j hjf
      · rw [if_neg hj, Array.getElem?_eq_none (by simp; omega)]
theorem holdsp_own {w : World} {base g n cap : Nat} {zs : List Pc} (h : w.ownsRow base 57 5 (.slice (some ⟨g, 0, none⟩) n cap) n (zs.flatMap pcV)) : HoldsK pcV 5 w g 0 zs.toArray := by
  rcases h.2 with ⟨e0, _⟩ | ⟨g', cap', cur, e0, hb, hg, hn, hm, hs, ht⟩
  · cases e0
  · injection e0 with e1 _ e3
    injection e1 with e1
    injection e1 with e1
    subst e1; subst e3
    have hl : zs.length * 5 = n * 5 := by rw [← flat_len pcV_len, h.1]
    intro j hj
    have hj' : j < n * 5 := by simp at hj; omega
    refine ⟨?_, by simp [World.frozen?, hg]⟩
    have e1 : (cur.toList.take (n * 5))[j]? = (zs.flatMap pcV)[j]? := by rw [ht]
    rw [List.getElem?_take, if_pos hj', ← flatKp_list, Array.getElem?_toList, Array.getElem?_toList, Array.getElem?_eq_getElem hj] at e1
    simp only [World.cell?, hg, Nat.zero_add]
    simp only [Option.isSome_none, Bool.false_eq_true, if_false]
    rw [e1]
    simp
    exact (getElem!_pos (flatK pcV 5 zs.toArray) j hj).symm
/-- What a sort leaves. -/
def SortQ (base : Nat) (xs : List Pc) (W : World) (v : Value) (w' : World) : Prop := ∃ ys : List Pc, ys.Perm xs ∧ AscP ys ∧ w'.ownsRow base 57 5 v ys.length (ys.flatMap pcV) ∧ Below base W w'
theorem ascP_of : ∀ {ys : List Pc}, (∀ i j, i < j → j < ys.length → ltOf cmpQ ys.toArray[j]! ys.toArray[i]! = false) → AscP ys
  | [], _ => trivial
  | y :: ys, h => by
    refine ⟨fun t ht => ?_, ascP_of (ys := ys) (fun i j hij hj => ?_)⟩
    · obtain ⟨j, hj, rfl⟩ := List.mem_iff_getElem.1 ht
      have := h 0 (j + 1) (by omega) (by simp; omega)
      rw [ltQ] at this
      simp [hj] at this
      exact this
    · have := h (i + 1) (j + 1) (by omega) (by simp; omega)
      have hi : i < ys.length := by omega
      simpa [hj, hi] using this
theorem sortp_any (F : Nat) (hF : CmpF F) (base g n cap : Nat) (xs : List Pc) (w : World) (hn : xs.length = n) (h : w.ownsRow base 57 5 (.slice (some ⟨g, 0, none⟩) n cap) n (xs.flatMap pcV)) (hl : n ≤ 1000000) :
    Calls Tryz.prog 59 #[.slice (some ⟨g, 0, none⟩) n cap, .func (.func F) #[] #[]] w fun e w' => e = .returned (.tuple #[]) ∧ SortQ base xs w (.slice (some ⟨g, 0, none⟩) n cap) w' := by
  have hcon := AnyQ.slices_SortFunc Tryz.sortPc 5 Tryz.isAgg57 Tryz.sizeOf57 pcV pcV_len pcV_one cmpQ swoQ F #[] g 0 cap xs.toArray w hF.enters (hF.lays g 0 _ w) (holdsp_own h) (h.lt g rfl).2 (by simp; omega)
  change Calls Tryz.prog 59 _ _ _ at hcon
  rw [show xs.toArray.size = n by simpa using hn] at hcon
  refine hcon.mono ?_
  rintro e w' ⟨rfl, d', q, os, hp, hs, rfl⟩
  obtain ⟨p1, _, p3⟩ := hp
  have hsz : d'.toList.length = n := by simp [p1, hn]
  refine ⟨rfl, d'.toList, ?_, ascP_of (fun i j hij hj => hs i j (Nat.zero_le _) hij (by omega)), ?_, ?_⟩
  · have e1 : d'.extract 0 n = d' := by rw [Array.extract_eq_self_of_le (by simp [p1, hn])]
    have e2 : xs.toArray.extract 0 n = xs.toArray := by rw [Array.extract_eq_self_of_le (by simp [hn])]
    rw [e1, e2] at p3
    simpa using p3
  · have := ownp_sorted (q := q) (ys := d'.toList) (os := os) h hsz
    rw [hsz]
    simpa using this
  · have hb := (h.lt g rfl).1
    have := heapp_sorted (w := w) (g := g) (q := q) (ys := d'.toList) (os := os)
    exact ⟨rfl, rfl, rfl, by have := sizep_sorted (w := w) (g := g) (q := q) (ys := d'.toList) (os := os); simpa using this, fun k hk => by
      have hw : k < w.heap.size := by have := (h.lt g rfl).2; omega
      have := this k hw (by omega)
      simpa using this⟩
end Go.Proofs.YteojlodcafogaaaGreatDoor
