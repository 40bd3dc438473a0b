/-
  Sorting spans. The conditions of the contracts are their hypotheses.
-/
import Derived.RangeFuncNested
import Derived.RangeFuncBound
import Derived.RangeFuncCalls
import Derived.RangeFuncLeaves
import Derived.RangeFuncBox
import Derived.Shelf.Abstract
import Derived.WalkKit
import Derived.OwnWalkIn
import Derived.TacticsInMore
import Derived.LoopNIn
import Derived.LoopIn
import Derived.Maps.AppendAt
import Derived.Test.YtmopjhbfobmklaaGreatDoorMCs
import Derived.Test.YtmopjhbfobmklaaGreatDoorShelf
import Derived.Lib.OwnBridge
import Derived.Shelf.SlSortCmp.NoneTotal
set_option maxRecDepth 100000
set_option maxHeartbeats 40000000
namespace Go.Proofs.YtmopjhbfobmklaaGreatDoor
open Go.RowKit Go.Joins Go.Shelf
set_option linter.unusedVariables false
set_option linter.unusedSimpArgs false
attribute [local go_sem] Oper.semAt_some
theorem values1_in (F : Fence) (n : Nat) (h7 : F.fn 154) (hro : F.round = none) (hn : 1 ≤ n) (l Bs n₀ : Nat) (A : Option Addr) (c : Nat) (xs : List Spn) (w0 : World) (h0s : w0.heap.size = n₀)
  (hx : SpAt w0 A xs) (hBs0 : w0.cell? ⟨Bs, 0, none⟩ = some (.slice A xs.length c)) (hl : xs.length ≤ 1000000000)
  (J Jx : List Spn → World → Prop) (W : World) (hJa : AbidesFrom W.heap.size J)
  (hY : ∀ pre x W, J pre W → pre.length < xs.length → YieldAt F (n - 1) Tryz.prog l #[spA x] W fun e W' =>
   (e = .returned (.bool true) ∧ J (pre ++ [x]) W' ∧ Below n₀ W W') ∨ (e = .returned (.bool false) ∧ Jx (pre ++ [x]) W'))
  (hW0 : Below n₀ w0 W) (h0 : J [] W) :
  CallsIn F n Tryz.prog 154 #[.func (.yield l) #[] #[], .pointer (some ⟨Bs, 0, none⟩)] W fun e W' => (∃ v, e = .returned v) ∧
   ((∃ ys, ys = xs ∧ J ys W') ∨ (∃ pre, pre <+: xs ∧ Jx pre W')) := by
 have hlt0 : Bs < n₀ := by rw [← h0s]; exact World.block_lt_of_cell? _ _ hBs0
 have hBs : W.cell? ⟨Bs, 0, none⟩ = some (.slice A xs.length c) := (hW0.cell (p := ⟨Bs, 0, none⟩) hlt0).trans hBs0
 have HX := ι hx
 have HJA := ι hJa
 have HW0 := ι hW0
 clear hx hBs0 hJa hW0
 refine callsIn_of_wp Tryz.func154 rfl h7 ?_ hro
 simp only [Tryz.ntmps154, List.size_toArray, List.length_cons, List.length_nil, Nat.reduceAdd, Nat.reduceSub, Array.replicate_succ, Array.replicate_zero, List.push_toArray, List.append_toArray, List.nil_append, List.cons_append]
 gi_wp2
 gi_loopw [7] (fun i wr => ∃ k : Nat, k ≤ xs.length ∧ i = .int .i64 k ∧ J (xs.take k) wr ∧ Hid (Below n₀ w0 wr))
  (fun i _ => xs.length - (intOf i).toNat)
 case atStart => exact ⟨0, Nat.zero_le _, rfl, h0, HW0⟩
 case round =>
 obtain ⟨k, hk, rfl, hJs, HB⟩ := hrel
 by_cases hlt : k < xs.length
 ·have hlt2 : (k : Int) < (xs.length : Int) := by omega
  obtain ⟨x, hx⟩ : ∃ x, xs[k]? = some x := ⟨_, List.getElem?_eq_getElem hlt⟩
  have HXK := ι hx
  have HRw := HX.out.ext (h0s ▸ HB.out)
  obtain ⟨g, o, rfl⟩ := SpAt.some HRw hx
  obtain ⟨q0, q1⟩ := SpAt.get HRw hx
  have hn0w : n₀ ≤ wr.heap.size := by have := HB.out.size; omega
  clear HRw hx
  have hJ2 : J (xs.take k) (wr.alloc (.cells #[.int .i64 x.i, .int .i64 x.o] 29)) := HJA.out _ wr _ none hJs (World.grownBy_alloc _ _ _) (fun r e => by cases e)
  obtain ⟨fn, tmps, assign, body, hy, hR⟩ := hY _ x _ hJ2 (by rw [List.length_take]; omega)
  gi_wp2
  refine hR.mono ?_
  rintro e W3 (⟨rfl, hJ3, hk3⟩ | ⟨rfl, hJx3⟩)
  ·have HB3 := ι ((HB.out.alloc hn0w _).trans hk3)
   have hts : xs.take k ++ [x] = xs.take (k + 1) := by rw [List.take_add_one, HXK.out]; rfl
   rw [hts] at hJ3
   clear hk3 hts
   gi_wp2
   go_roundw
   case rel => exact ⟨k + 1, by omega, by go_num, hJ3, HB3⟩
   case measure => simp [intOf]; omega
  have hts : xs.take k ++ [x] = xs.take (k + 1) := by rw [List.take_add_one, HXK.out]; rfl
  rw [hts] at hJx3
  clear hts
  gi_wp2
  refine bodyPost_ret (results_none rfl _ _ _) rfl ?_
  exact ⟨⟨_, rfl⟩, .inr ⟨_, List.take_prefix _ _, hJx3⟩⟩
 obtain rfl : k = xs.length := by omega
 rw [List.take_length] at hJs
 clear hlt
 gi_wp2
 go_end0
 exact ⟨⟨_, rfl⟩, .inl ⟨_, rfl, hJs⟩⟩
theorem values_in (F : Fence) (n : Nat) (h5 : F.fn 112) (hro : F.round = none) (A : Option Addr) (len cap : Nat) (w : World) :
  CallsIn F n Tryz.prog 112 #[.slice A len cap] w fun e w' => e = .returned (.func (.func 154) #[] #[.pointer (some ⟨w.heap.size, 0, none⟩)]) ∧ w' = w.alloc (.cells #[.slice A len cap] 60) := by
 refine callsIn_of_wp Tryz.func112 rfl h5 ?_ hro
 simp only [Tryz.ntmps112, List.size_toArray, List.length_cons, List.length_nil, Nat.reduceAdd, Nat.reduceSub, Array.replicate_succ, Array.replicate_zero, List.push_toArray, List.append_toArray, List.nil_append, List.cons_append]
 gi_wp2
 go_ret
 exact ⟨rfl, rfl⟩
end Go.Proofs.YtmopjhbfobmklaaGreatDoor
namespace Go.Proofs.YtmopjhbfobmklaaGreatDoor
open Go.RowKit Go.Joins Go.Shelf
set_option linter.unusedVariables false
set_option linter.unusedSimpArgs false
attribute [local go_sem] Oper.semAt_some
def SBox (W : World) (B : Nat) (x : Spn) : Prop := W.heap[B]? = some (.cells #[.int .i64 x.i, .int .i64 x.o] 29 (0, 0))
theorem SBox.cells {W : World} {B : Nat} {x : Spn} (h : SBox W B x) : W.cell? ⟨B, 0, none⟩ = some (.int .i64 x.i) ∧ W.cell? ⟨B, 1, none⟩ = some (.int .i64 x.o) := by
 constructor <;> simp [World.cell?, show W.heap[B]? = _ from h]
theorem appendSeq_in (F : Fence) (n : Nat) (hA : F.fn 179) (hV : F.fn 154) (hro : F.round = none) (hn : 3 ≤ n) (Bs : Nat) (A : Option Addr) (c : Nat) (xs : List Spn) (w : World)
  (hx : SpAt w A xs) (hBs : w.cell? ⟨Bs, 0, none⟩ = some (.slice A xs.length c)) (hl : xs.length ≤ 1000000) :
  CallsIn F n Tryz.prog 179 #[.slice none 0 0, .func (.func 154) #[] #[.pointer (some ⟨Bs, 0, none⟩)]] w fun e W' => ∃ v, e = .returned v ∧ W'.ownsRow w.heap.size 29 2 v xs.length (xs.flatMap spV) ∧ Below w.heap.size w W' := by
 have h1 : 1 ≤ n := by omega
 obtain ⟨i0, hi, hz0, hz1, hz2⟩ := info_parts infoS
 refine callsIn_of_wp_marks Tryz.func179 rfl hA ?_ hro
 simp only [Tryz.ntmps179, List.size_toArray, List.length_cons, List.length_nil, Nat.reduceAdd, Nat.reduceSub, Array.replicate_succ, Array.replicate_zero, List.push_toArray, List.append_toArray, List.nil_append, List.cons_append]
 gi_wp2
 have bO := Boxed.new w 60 (.slice none 0 0)
 have hB0 : Below w.heap.size w (w.alloc (.cells #[.slice none 0 0] 60)) := (Below.refl _ w).alloc (Nat.le_refl _) _
 refine wpIn_rangeFunc_ownH hro h1 (gf := 154) (lb := #[.pointer (some ⟨Bs, 0, none⟩)]) rfl hV (enters_of Tryz.func154 (by kernel_rfl) rfl)
  (w0 := w.alloc (.cells #[.slice none 0 0] 60)) (N := xs.length) (encs := fun x : Spn => #[spA x]) (Kp := Below w.heap.size) (S := fun ys => ys = xs) (Sp := fun pre => pre <+: xs)
  (fun l J Jx W hW hJ hJx hY h0 => values1_in F (n - 1) hV hro (by omega) l Bs w.heap.size A c xs w rfl hx hBs (by omega) J Jx W hJ hY (hB0.trans (hW.mono (by simp))) h0) belowK_t (belowK_b (by simp)) (Below.refl _ _) (fun _ => rfl)
  (fun pre W => (∃ v, Boxed W w.heap.size 60 v ∧ W.ownsRow w.heap.size 29 2 v pre.length (pre.flatMap spV) ∧ True) ∧ Below w.heap.size w W)
  (fun _ _ _ => False)
  ?hI
  (fun _ _ _ _ _ hs _ _ => hs)
  ⟨⟨_, bO, World.ownsRow_nil _ _ _ _, trivial⟩, hB0⟩
  (fun x a' W => ∃ Bx, w.heap.size < Bx ∧ SBox W Bx x ∧ a' = { tmps := #[.slice none 0 0, .func (.func 154) #[] #[.pointer (some ⟨Bs, 0, none⟩)], .pointer (some ⟨w.heap.size, 0, none⟩), undef, .slice none 0 0, .pointer (some ⟨Bx, 0, none⟩), .func (.func 154) #[] #[.pointer (some ⟨Bs, 0, none⟩)], spA x, undef, undef, undef, undef, undef], defers := [] })
  ?hAx ?assign ?body ?done ?stop
 case hI => exact OwnFrom.and (Own.from (holdsRow_own w.heap.size w.heap.size 60 29 2 (fun pre : List Spn => pre.length) (fun pre => pre.flatMap spV) (fun _ _ => True)) _) (ownFrom_below (Nat.le_refl _) (by simp))
 case hAx =>
  intro x a' _ X Y row hs hg hr
  obtain ⟨Bx, k1, k2, k3⟩ := hs
  refine ⟨Bx, k1, (hg.block Bx (Array.getElem?_eq_some_iff.1 k2).1 (fun e => ?_)).trans k2, k3⟩
  obtain ⟨_, ob, ho, hc⟩ := hr Bx e.symm
  rw [show X.heap[Bx]? = _ from k2] at ho
  cases ho
  cases hc
 case assign =>
  rintro l pre x W K ⟨⟨v, hv, hrow, _⟩, hB⟩ hK
  gi_wp2
  exact hK _ _ ((KeepsOthers.alloc _ _).from _) ((Below.refl _ W).alloc hB.size _) ⟨⟨v, hv.alloc _, hrow.alloc _, trivial⟩, hB.alloc hB.size _⟩ ⟨W.heap.size, hv.lt, heap_at W _ rfl, rfl⟩
 case body =>
  rintro l pre x a' W hl ⟨r, hr⟩ ⟨⟨v, hv, hrow, _⟩, hB⟩ ⟨Bx, hBx, bX, rfl⟩ hlt
  have hc := hv.cell
  obtain ⟨z0, z1⟩ := bX.cells
  gi_wp2_with (gi_at_builtin; refine wpListIn_append_own _ rfl _ _ 60 rfl w.heap.size 29 i0 (.agg #[.int .i64 0, .int .i64 0]) 2 16 Tryz.underlying60 hi hz0 hz1 hz2 rfl (by decide) _ _ _ rfl (hrow.alloc _) ⟨W.heap.size, 0, none⟩ 1 1 (spV x) rfl rfl (CellsAt.all (by simp [CellsAt, go_sem, spV])) (by simp [Value.oneCell', spV]) (by simp only [maxLen]; omega) (by omega) (by have := hB.size; simp; omega) ?_; intro v' w1 hown' hgrow _; obtain ⟨g', cap', rfl⟩ := ownsRow_succ hown'; obtain ⟨hv1, hv2, hr2, hk2, hb2⟩ := hv.appended (by decide) hrow hB.size (Nat.le_refl _) hown' hgrow; have hc1 := hv1.cell; have hf1 := hv1.frozen)
  exact ⟨hk2.from _, hb2, ⟨⟨_, hv2, by simpa using hr2, trivial⟩, hB.trans hb2⟩⟩
 case done =>
  rintro D ys W hD rfl ⟨⟨v, hv, hrow, _⟩, hB⟩ hK
  have hc := hv.cell
  gi_wp2
  refine ⟨by simp, .inl ⟨_, _, rfl, run_takeDeferred hK, ?_⟩⟩
  exact ⟨_, results_tmp rfl _ _ _, v, rfl, ownsRow_putObj hrow _ hK rfl, hB.trans (belowK_b (w := w) (Nat.le_refl _) W D _ _ (by simp at hD; omega) hK rfl rfl)⟩
 case stop =>
 rintro D c pre W _ _ h _
 exact h.elim
end Go.Proofs.YtmopjhbfobmklaaGreatDoor
namespace Go.Proofs.YtmopjhbfobmklaaGreatDoor
open Go.RowKit Go.Joins Go.Sort
set_option linter.unusedVariables false
set_option linter.unusedSimpArgs false
instance : Inhabited Spn := ⟨⟨0, 0⟩⟩
def cmpS (x y : Spn) : Int := Lib.compareInt x.i y.i
theorem ltS (x y : Spn) : ltOf cmpS x y = decide (x.i < y.i) := by
 unfold ltOf cmpS Lib.compareInt
 by_cases h1 : x.i < y.i
 ·simp [h1]
 by_cases h2 : y.i < x.i <;> simp [h1, h2]
theorem swoS : SWO (ltOf cmpS) where
 irrefl x := by rw [ltS]; simp
 trans x y z h1 h2 := by rw [ltS] at *; simp at *; omega
 ntrans x y z h1 h2 := by rw [ltS] at *; simp at *; omega
theorem cmpSp_any (x y : Spn) (W : World) : Calls Tryz.prog 113 #[spA x, spA y] W fun e w' => e = .returned (.int .i64 (cmpS x y)) ∧ ∃ q os', w' = grow (W.drewN q) os' := by
 have hcon := fun W' => AnyG.cmp_Compare_int Tryz.cmpI x.i y.i W'
 change ∀ W', Calls Tryz.prog 87 _ _ _ at hcon
 unfold cmpS
 generalize Lib.compareInt x.i y.i = r at hcon ⊢
 go_enter Tryz.func113, Tryz.ntmps113
 go_wp2_with (go_at_call 87; refine (hcon _).mono ?_; rintro e w' ⟨rfl, rfl⟩)
 go_ret
 exact ⟨rfl, 0, _, by rw [alloc_eq_grow, alloc_eq_grow, grow_grow]; rfl⟩
theorem cmp_lays (blk off size : Nat) (w : World) : CmpLays Tryz.prog 113 #[] spV 2 cmpS blk off size w :=
 fun _ _ _ _ x y => cmpSp_any x y _
theorem flatK_list (ys : List Spn) : (flatK spV 2 ys.toArray).toList = ys.flatMap spV := by
 apply List.ext_getElem?
 intro t
 have hl : (ys.flatMap spV).length = ys.length * 2 := flat_len spV_len ys
 by_cases ht : t < ys.length * 2
 ·have hk : t / 2 < ys.length := by omega
  have h1 : (flatK spV 2 ys.toArray)[t]! = (spV ys[t / 2])[t % 2]! := by
   rw [get_flatK _ _ _ _ (by simpa using ht)]
   simp [hk]
  have h2 := flat_get spV_len (List.getElem?_eq_getElem hk) (j := t % 2) (by omega)
  rw [show t / 2 * 2 + t % 2 = t by omega] at h2
  have ht2 : t < (flatK spV 2 ys.toArray).size := by simpa using ht
  rw [h2, Array.getElem?_toList, Array.getElem?_eq_getElem ht2, ← getElem!_pos (flatK spV 2 ys.toArray) t ht2, h1]
  have h3 : t % 2 < (spV ys[t / 2]).length := by rw [spV_len]; omega
  rw [List.getElem?_eq_getElem h3, getElem!_pos (spV ys[t / 2]) (t % 2) h3]
 rw [List.getElem?_eq_none (by simp; omega), List.getElem?_eq_none (by rw [hl]; omega)]
theorem heap_sorted {w : World} {g q : Nat} {ys : List Spn} {os : Array Obj} (k : Nat) (hk : k < w.heap.size) (hne : k ≠ g) : (sortWorldK spV 2 w g 0 q ys.toArray os).heap[k]? = w.heap[k]? := by
 unfold sortWorldK putRowK
 rw [heap_grow_old _ _ (by simpa [putRow, mapBlock, Sort.ahead] using hk)]
 have : g ≠ k := fun e => hne e.symm
 simp [putRow, mapBlock, Sort.ahead, Array.getElem?_modify, this]
theorem size_sorted {w : World} {g q : Nat} {ys : List Spn} {os : Array Obj} : w.heap.size ≤ (sortWorldK spV 2 w g 0 q ys.toArray os).heap.size := by
 unfold sortWorldK putRowK
 simp [putRow, mapBlock, Sort.ahead, grow]
theorem own_sorted {w : World} {base g n cap q : Nat} {zs ys : List Spn} {os : Array Obj} (h : w.ownsRow base 29 2 (.slice (some ⟨g, 0, none⟩) n cap) n (zs.flatMap spV)) (hy : ys.length = n) :
  (sortWorldK spV 2 w g 0 q ys.toArray os).ownsRow base 29 2 (.slice (some ⟨g, 0, none⟩) n cap) n (ys.flatMap spV) := by
 have hlt := (h.lt g rfl).2
 rcases h.2 with ⟨e0, _⟩ | ⟨g', cap', cur, e0, hb, hg, hn, hm, hs, ht⟩
 ·cases e0
 injection e0 with e1 _ e3
 injection e1 with e1
 injection e1 with e1
 subst e1; subst e3
 refine ⟨by rw [flat_len spV_len, hy], .inr ⟨g, cap, putCells id 0 (flatK spV 2 ys.toArray) cur, rfl, hb, ?_, by omega, hm, by simpa [putCells] using hs, ?_⟩⟩
 ·unfold sortWorldK putRowK
  rw [heap_grow_old _ _ (by simpa [putRow, mapBlock, Sort.ahead] using hlt)]
  simp [putRow, mapBlock, Sort.ahead, Array.getElem?_modify, hg, onCells]
 rw [← flatK_list]
 apply List.ext_getElem?
 intro j
 rw [List.getElem?_take, Array.getElem?_toList, Array.getElem?_toList]
 by_cases hj : j < n * 2
 ·have hjc : j < cur.size := by rw [hs]; have := Nat.mul_le_mul_right 2 hn; omega
  have hjf : j < (flatK spV 2 ys.toArray).size := by simp; omega
  simp only [if_pos hj, putCells, Array.getElem?_mapIdx, Array.getElem?_eq_getElem hjc, Option.map_some]
  rw [if_pos (by simp; omega), Array.getElem?_eq_getElem hjf]
  simp
  exact getElem!_pos (flatK spV 2 ys.toArray) j hjf
 rw [if_neg hj, Array.getElem?_eq_none (by simp; omega)]
theorem holds_own {w : World} {base g n cap : Nat} {zs : List Spn} (h : w.ownsRow base 29 2 (.slice (some ⟨g, 0, none⟩) n cap) n (zs.flatMap spV)) : HoldsK spV 2 w g 0 zs.toArray := by
 rcases h.2 with ⟨e0, _⟩ | ⟨g', cap', cur, e0, hb, hg, hn, hm, hs, ht⟩
 ·cases e0
 injection e0 with e1 _ e3
 injection e1 with e1
 injection e1 with e1
 subst e1; subst e3
 have hl : zs.length * 2 = n * 2 := by rw [← flat_len spV_len, h.1]
 intro j hj
 have hj' : j < n * 2 := by simp at hj; omega
 refine ⟨?_, by simp [World.frozen?, hg]⟩
 have e1 : (cur.toList.take (n * 2))[j]? = (zs.flatMap spV)[j]? := by rw [ht]
 rw [List.getElem?_take, if_pos hj', ← flatK_list, Array.getElem?_toList, Array.getElem?_toList, Array.getElem?_eq_getElem hj] at e1
 simp only [World.cell?, hg, Nat.zero_add]
 simp only [Option.isSome_none, Bool.false_eq_true, if_false]
 rw [e1]
 simp
 exact (getElem!_pos (flatK spV 2 zs.toArray) j hj).symm
def SortP (base : Nat) (xs : List Spn) (W : World) (v : Value) (w' : World) : Prop := ∃ ys : List Spn, ys.Perm xs ∧ Srt ys ∧ w'.ownsRow base 29 2 v ys.length (ys.flatMap spV) ∧ Below base W w'
theorem srt_of : ∀ {ys : List Spn}, (∀ i j, i < j → j < ys.length → ltOf cmpS ys.toArray[j]! ys.toArray[i]! = false) → Srt ys
 | [], _ => trivial
 | y :: ys, h => by
  refine ⟨fun t ht => ?_, srt_of (ys := ys) (fun i j hij hj => ?_)⟩
  ·obtain ⟨j, hj, rfl⟩ := List.mem_iff_getElem.1 ht
   have := h 0 (j + 1) (by omega) (by simp; omega)
   rw [ltS] at this
   simp [hj] at this
   exact this
  have := h (i + 1) (j + 1) (by omega) (by simp; omega)
  have hi : i < ys.length := by omega
  simpa [hj, hi] using this
theorem sort_any (base g n cap : Nat) (xs : List Spn) (w : World) (hn : xs.length = n) (h : w.ownsRow base 29 2 (.slice (some ⟨g, 0, none⟩) n cap) n (xs.flatMap spV)) (hl : n ≤ 1000000) :
  Calls Tryz.prog 153 #[.slice (some ⟨g, 0, none⟩) n cap, .func (.func 113) #[] #[]] w fun e w' => e = .returned (.tuple #[]) ∧ SortP base xs w (.slice (some ⟨g, 0, none⟩) n cap) w' := by
 have eg : ∀ args w, (callFunc 113 args).run Tryz.prog w = .ok (.enter 113 args) w := enters_of Tryz.func113 (by kernel_rfl) rfl
 have hcon := AnyQ.slices_SortFunc Tryz.sortSp 2 Tryz.isAgg29 Tryz.sizeOf29 spV spV_len spV_one cmpS swoS 113 #[] g 0 cap xs.toArray w eg (cmp_lays g 0 _ w) (holds_own h) (h.lt g rfl).2 (by simp; omega)
 change Calls Tryz.prog 153 _ _ _ at hcon
 rw [show xs.toArray.size = n by simpa using hn] at hcon
 refine hcon.mono ?_
 rintro e w' ⟨rfl, d', q, os, hp, hs, rfl⟩
 obtain ⟨p1, _, p3⟩ := hp
 have hsz : d'.toList.length = n := by simp [p1, hn]
 refine ⟨rfl, d'.toList, ?_, srt_of (fun i j hij hj => hs i j (Nat.zero_le _) hij (by omega)), ?_, ?_⟩
 ·have e1 : d'.extract 0 n = d' := by rw [Array.extract_eq_self_of_le (by simp [p1, hn])]
  have e2 : xs.toArray.extract 0 n = xs.toArray := by rw [Array.extract_eq_self_of_le (by simp [hn])]
  rw [e1, e2] at p3
  simpa using p3
 ·have := own_sorted (q := q) (ys := d'.toList) (os := os) h hsz
  rw [hsz]
  simpa using this
 have hb := (h.lt g rfl).1
 have := heap_sorted (w := w) (g := g) (q := q) (ys := d'.toList) (os := os)
 exact ⟨rfl, rfl, rfl, by have := size_sorted (w := w) (g := g) (q := q) (ys := d'.toList) (os := os); simpa using this, fun k hk => by
  have hw : k < w.heap.size := by have := (h.lt g rfl).2; omega
  have := this k hw (by omega)
  simpa using this⟩
end Go.Proofs.YtmopjhbfobmklaaGreatDoor
namespace Go.Proofs.YtmopjhbfobmklaaGreatDoor
open Go.RowKit Go.Joins Go.Sort
set_option linter.unusedVariables false
set_option linter.unusedSimpArgs false
theorem collect_any (Bs : Nat) (A : Option Addr) (c : Nat) (xs : List Spn) (w : World) (hx : SpAt w A xs) (hBs : w.cell? ⟨Bs, 0, none⟩ = some (.slice A xs.length c)) (hl : xs.length ≤ 1000000) :
  Calls Tryz.prog 152 #[.func (.func 154) #[] #[.pointer (some ⟨Bs, 0, none⟩)]] w fun e W' => ∃ v, e = .returned v ∧ W'.ownsRow w.heap.size 29 2 v xs.length (xs.flatMap spV) ∧ Below w.heap.size w W' := by
 have hcon := callsIn_wide.1 (appendSeq_in Fence.wide 3 trivial trivial rfl (by omega) Bs A c xs w hx hBs hl)
 go_enter Tryz.func152, Tryz.ntmps152
 go_wp2_with fail
 refine hcon.mono ?_
 rintro e w1 ⟨v, rfl, h1, h2⟩
 go_wp2_with fail
 go_ret
 exact ⟨_, rfl, h1, h2⟩
def SortedP (xs : List Spn) (W : World) (e : Ending) (w' : World) : Prop := ∃ v ys, e = .returned v ∧ ys.Perm xs ∧ Srt ys ∧ w'.ownsRow W.heap.size 29 2 v ys.length (ys.flatMap spV) ∧ Below W.heap.size W w'
theorem sortAll_any (base : Nat) (v : Value) (xs : List Spn) (w : World) (h : w.ownsRow base 29 2 v xs.length (xs.flatMap spV)) (hl : xs.length ≤ 1000000) :
  Calls Tryz.prog 153 #[v, .func (.func 113) #[] #[]] w fun e w' => e = .returned (.tuple #[]) ∧ SortP base xs w v w' := by
 cases xs with
 | nil =>
  obtain ⟨A, c, e, _⟩ := row_of_ownK h
  subst e
  have hcon := AnyF.slices_SortFunc_none { Tryz.sortSp with } A c (.func (.func 113) #[] #[]) w
  change Calls Tryz.prog 153 _ _ _ at hcon
  refine hcon.mono ?_
  rintro e w' ⟨rfl, rfl⟩
  exact ⟨rfl, [], List.Perm.refl _, trivial, h, Below.refl _ _⟩
 | cons x r =>
  obtain ⟨g, cap, rfl⟩ := ownsRow_succ h
  exact sort_any base g _ cap (x :: r) w rfl h hl
theorem sorted_any (Bs : Nat) (A : Option Addr) (c : Nat) (xs : List Spn) (w : World) (hx : SpAt w A xs) (hBs : w.cell? ⟨Bs, 0, none⟩ = some (.slice A xs.length c)) (hl : xs.length ≤ 1000000) :
  Calls Tryz.prog 111 #[.func (.func 154) #[] #[.pointer (some ⟨Bs, 0, none⟩)], .func (.func 113) #[] #[]] w (SortedP xs w) := by
 have hcon := collect_any Bs A c xs w hx hBs hl
 unfold SortedP
 obtain ⟨D, hD⟩ : ∃ D, D = w.heap.size := ⟨_, rfl⟩
 rw [← hD] at hcon ⊢
 clear hD
 go_enter Tryz.func111, Tryz.ntmps111
 go_wp2_with fail
 refine hcon.mono ?_
 rintro e w1 ⟨v, rfl, h1, h2⟩
 have H1 := ι h1
 have H2 := ι h2
 clear h1 h2 hcon
 go_wp2_with fail
 refine (sortAll_any D v xs w1 H1.out hl).mono ?_
 rintro e w2 ⟨rfl, ys, h3, h4, h5, h6⟩
 go_wp2_with fail
 go_ret
 exact ⟨_, ys, rfl, h3, h4, h5, H2.out.trans h6⟩
theorem values_any (A : Option Addr) (len cap : Nat) (w : World) :
  Calls Tryz.prog 112 #[.slice A len cap] w fun e w' => e = .returned (.func (.func 154) #[] #[.pointer (some ⟨w.heap.size, 0, none⟩)]) ∧ w' = w.alloc (.cells #[.slice A len cap] 60) :=
 callsIn_wide.1 (values_in Fence.wide 1 trivial rfl A len cap w)
end Go.Proofs.YtmopjhbfobmklaaGreatDoor
