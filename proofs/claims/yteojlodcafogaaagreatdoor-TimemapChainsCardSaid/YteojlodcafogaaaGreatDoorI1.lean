/-
  The contracts of slices.Values, of its iterator and of slices.Collect at pieces. Their conditions are their hypotheses.
-/
import Derived.RangeFuncNested
import Derived.RangeFuncBound
import Derived.RangeFuncCalls
import Derived.RangeFuncLeaves
import Derived.RangeFuncBox
import Derived.Shelf.Abstract
import Derived.WalkKit
import Derived.OwnWalkIn
import Derived.TacticsInMore
import Derived.LoopNIn
import Derived.LoopIn
import Derived.Maps.AppendAt
import Derived.Test.YteojlodcafogaaaGreatDoorBh
namespace Go.Proofs.YteojlodcafogaaaGreatDoor
open Go.RowKit Go.Joins Go.Shelf
set_option linter.unusedVariables false
set_option linter.unusedSimpArgs false
attribute [local go_sem] Oper.semAt_some
set_option maxRecDepth 100000 in
set_option maxHeartbeats 2000000 in
/-- The iterator: for every loop body that keeps what lay ahead. -/
theorem values1p_in (F : Fence) (n : Nat) (h7 : F.fn 126) (hro : F.round = none) (hn : 1 ≤ n) (l Bs n₀ : Nat) (A : Option Addr) (c : Nat) (xs : List Pc) (w0 : World) (h0s : w0.heap.size = n₀)
    (hx : PcAt w0 A xs) (hBs0 : w0.cell? ⟨Bs, 0, none⟩ = some (.slice A xs.length c)) (hl : xs.length ≤ 1000000000)
    (J Jx : List Pc → World → Prop) (W : World) (hJa : AbidesFrom W.heap.size J)
    (hY : ∀ pre x W, J pre W → pre.length < xs.length → YieldAt F (n - 1) Tryz.prog l #[pcA x] W fun e W' =>
      (e = .returned (.bool true) ∧ J (pre ++ [x]) W' ∧ Below n₀ W W') ∨ (e = .returned (.bool false) ∧ Jx (pre ++ [x]) W'))
    (hW0 : Below n₀ w0 W) (h0 : J [] W) :
    CallsIn F n Tryz.prog 126 #[.func (.yield l) #[] #[], .pointer (some ⟨Bs, 0, none⟩)] W fun e W' => (∃ v, e = .returned v) ∧
      ((∃ ys, ys = xs ∧ J ys W') ∨ (∃ pre, pre <+: xs ∧ Jx pre W')) := by
  have hlt0 : Bs < n₀ := by rw [← h0s]; exact World.block_lt_of_cell? _ _ hBs0
  have hBs : W.cell? ⟨Bs, 0, none⟩ = some (.slice A xs.length c) := (hW0.cell (p := ⟨Bs, 0, none⟩) hlt0).trans hBs0
  have HX := Lib.hid hx
  have HJA := Lib.hid hJa
  have HW0 := Lib.hid hW0
  clear hx hBs0 hJa hW0
  refine callsIn_of_wp Tryz.func126 rfl h7 ?_ hro
  simp only [Tryz.ntmps126, List.size_toArray, List.length_cons, List.length_nil, Nat.reduceAdd, Nat.reduceSub, Array.replicate_succ, Array.replicate_zero, List.push_toArray, List.append_toArray, List.nil_append, List.cons_append]
  gi_wp2
  gi_loopw [7] (fun i wr => ∃ k : Nat, k ≤ xs.length ∧ i = .int .i64 k ∧ J (xs.take k) wr ∧ Hid (Below n₀ w0 wr))
    (fun i _ => xs.length - (intOf i).toNat)
  case atStart => exact ⟨0, Nat.zero_le _, rfl, h0, HW0⟩
  case round =>
    obtain ⟨k, hk, rfl, hJs, HB⟩ := hrel
    by_cases hlt : k < xs.length
    · have hlt2 : (k : Int) < (xs.length : Int) := by omega
      obtain ⟨x, hx⟩ : ∃ x, xs[k]? = some x := ⟨_, List.getElem?_eq_getElem hlt⟩
      have HXK := Lib.hid hx
      have HRw := HX.out.ext (h0s ▸ HB.out)
      obtain ⟨g, o, rfl⟩ := PcAt.some HRw hx
      obtain ⟨q0, q1, q2, q3, q4⟩ := PcAt.get HRw hx
      have hn0w : n₀ ≤ wr.heap.size := by have := HB.out.size; omega
      clear HRw hx
      have hJ2 : J (xs.take k) (wr.alloc (.cells #[.int .i64 x.i, .int .i64 x.o, .int .i64 x.t, .int .i64 x.n, .int .i64 x.d] 57)) := HJA.out _ wr _ none hJs (World.grownBy_alloc _ _ _) (fun r e => by cases e)
      obtain ⟨fn, tmps, assign, body, hy, hR⟩ := hY _ x _ hJ2 (by rw [List.length_take]; omega)
      gi_wp2
      refine hR.mono ?_
      rintro e W3 (⟨rfl, hJ3, hk3⟩ | ⟨rfl, hJx3⟩)
      · have HB3 := Lib.hid ((HB.out.alloc hn0w _).trans hk3)
        have hts : xs.take k ++ [x] = xs.take (k + 1) := by rw [List.take_add_one, HXK.out]; rfl
        rw [hts] at hJ3
        clear hk3 hts
        gi_wp2
        go_roundw
        case rel => exact ⟨k + 1, by omega, by go_num, hJ3, HB3⟩
        case measure => simp [intOf]; omega
      · have hts : xs.take k ++ [x] = xs.take (k + 1) := by rw [List.take_add_one, HXK.out]; rfl
        rw [hts] at hJx3
        clear hts
        gi_wp2
        refine bodyPost_ret (results_none rfl _ _ _) rfl ?_
        exact ⟨⟨_, rfl⟩, .inr ⟨_, List.take_prefix _ _, hJx3⟩⟩
    · obtain rfl : k = xs.length := by omega
      rw [List.take_length] at hJs
      clear hlt
      gi_wp2
      go_end0
      exact ⟨⟨_, rfl⟩, .inl ⟨_, rfl, hJs⟩⟩
set_option maxHeartbeats 1000000 in
/-- slices.Values: the slice is boxed; the function value captures the box. -/
theorem valuesp_in (F : Fence) (n : Nat) (h5 : F.fn 89) (hro : F.round = none) (A : Option Addr) (len cap : Nat) (w : World) :
    CallsIn F n Tryz.prog 89 #[.slice A len cap] w fun e w' => e = .returned (.func (.func 126) #[] #[.pointer (some ⟨w.heap.size, 0, none⟩)]) ∧ w' = w.alloc (.cells #[.slice A len cap] 22) := by
  refine callsIn_of_wp Tryz.func89 rfl h5 ?_ hro
  simp only [Tryz.ntmps89, List.size_toArray, List.length_cons, List.length_nil, Nat.reduceAdd, Nat.reduceSub, Array.replicate_succ, Array.replicate_zero, List.push_toArray, List.append_toArray, List.nil_append, List.cons_append]
  gi_wp2
  go_ret
  exact ⟨rfl, rfl⟩
end Go.Proofs.YteojlodcafogaaaGreatDoor
