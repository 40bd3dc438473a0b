/-
  The contract of slices.AppendSeq at pieces, from nil. Its conditions are its hypotheses.
-/
import Derived.Test.YteojlodcafogaaaGreatDoorI1
namespace Go.Proofs.YteojlodcafogaaaGreatDoor
open Go.RowKit Go.Joins Go.Shelf
set_option linter.unusedVariables false
set_option linter.unusedSimpArgs false
attribute [local go_sem] Oper.semAt_some
/-- A block of one's own of five cells. -/
def PBox (W : World) (B : Nat) (x : Pc) : Prop := W.heap[B]? = some (.cells #[.int .i64 x.i, .int .i64 x.o, .int .i64 x.t, .int .i64 x.n, .int .i64 x.d] 57 (0, 0))
theorem PBox.cells {W : World} {B : Nat} {x : Pc} (h : PBox W B x) : W.cell? ⟨B, 0, none⟩ = some (.int .i64 x.i) ∧ W.cell? ⟨B, 1, none⟩ = some (.int .i64 x.o) ∧ W.cell? ⟨B, 2, none⟩ = some (.int .i64 x.t) ∧ W.cell? ⟨B, 3, none⟩ = some (.int .i64 x.n) ∧ W.cell? ⟨B, 4, none⟩ = some (.int .i64 x.d) := by
  refine ⟨?_, ?_, ?_, ?_, ?_⟩ <;> simp [World.cell?, show W.heap[B]? = _ from h]
set_option maxRecDepth 100000 in
set_option maxHeartbeats 2000000 in
theorem appendSeqp_in (F : Fence) (n : Nat) (hA : F.fn 151) (hV : F.fn 126) (hro : F.round = none) (hn : 3 ≤ n) (Bs : Nat) (A : Option Addr) (c : Nat) (xs : List Pc) (w : World)
    (hx : PcAt w A xs) (hBs : w.cell? ⟨Bs, 0, none⟩ = some (.slice A xs.length c)) (hl : xs.length ≤ 1000000) :
    CallsIn F n Tryz.prog 151 #[.slice none 0 0, .func (.func 126) #[] #[.pointer (some ⟨Bs, 0, none⟩)]] w fun e W' => ∃ v, e = .returned v ∧ W'.ownsRow w.heap.size 57 5 v xs.length (xs.flatMap pcV) ∧ Below w.heap.size w W' := by
  have h1 : 1 ≤ n := by omega
  obtain ⟨i0, hi, hz0, hz1, hz2⟩ := info_parts infoP
  refine callsIn_of_wp_marks Tryz.func151 rfl hA ?_ hro
  simp only [Tryz.ntmps151, List.size_toArray, List.length_cons, List.length_nil, Nat.reduceAdd, Nat.reduceSub, Array.replicate_succ, Array.replicate_zero, List.push_toArray, List.append_toArray, List.nil_append, List.cons_append]
  gi_wp2
  have bO := Boxed.new w 22 (.slice none 0 0)
  have hB0 : Below w.heap.size w (w.alloc (.cells #[.slice none 0 0] 22)) := (Below.refl _ w).alloc (Nat.le_refl _) _
  refine wpIn_rangeFunc_ownH hro h1 (gf := 126) (lb := #[.pointer (some ⟨Bs, 0, none⟩)]) rfl hV (enters_of Tryz.func126 (by kernel_rfl) rfl)
    (w0 := w.alloc (.cells #[.slice none 0 0] 22)) (N := xs.length) (encs := fun x : Pc => #[pcA x]) (Kp := Below w.heap.size) (S := fun ys => ys = xs) (Sp := fun pre => pre <+: xs)
    (fun l J Jx W hW hJ hJx hY h0 => values1p_in F (n - 1) hV hro (by omega) l Bs w.heap.size A c xs w rfl hx hBs (by omega) J Jx W hJ hY (hB0.trans (hW.mono (by simp))) h0) belowK_t (belowK_b (by simp)) (Below.refl _ _) (fun _ => rfl)
    (fun pre W => (∃ v, Boxed W w.heap.size 22 v ∧ W.ownsRow w.heap.size 57 5 v pre.length (pre.flatMap pcV) ∧ True) ∧ Below w.heap.size w W)
    (fun _ _ _ => False)
    ?hI
    (fun _ _ _ _ _ hs _ _ => hs)
    ⟨⟨_, bO, World.ownsRow_nil _ _ _ _, trivial⟩, hB0⟩
    (fun x a' W => ∃ Bx, w.heap.size < Bx ∧ PBox W Bx x ∧ a' = { tmps := #[.slice none 0 0, .func (.func 126) #[] #[.pointer (some ⟨Bs, 0, none⟩)], .pointer (some ⟨w.heap.size, 0, none⟩), undef, .slice none 0 0, .pointer (some ⟨Bx, 0, none⟩), .func (.func 126) #[] #[.pointer (some ⟨Bs, 0, none⟩)], pcA x, undef, undef, undef, undef, undef], defers := [] })
    ?hAx ?assign ?body ?done ?stop
  case hI => exact OwnFrom.and (Own.from (holdsRow_own w.heap.size w.heap.size 22 57 5 (fun pre : List Pc => pre.length) (fun pre => pre.flatMap pcV) (fun _ _ => True)) _) (ownFrom_below (Nat.le_refl _) (by simp))
  case hAx =>
    intro x a' _ X Y row hs hg hr
    obtain ⟨Bx, k1, k2, k3⟩ := hs
    refine ⟨Bx, k1, (hg.block Bx (Array.getElem?_eq_some_iff.1 k2).1 (fun e => ?_)).trans k2, k3⟩
    obtain ⟨_, ob, ho, hc⟩ := hr Bx e.symm
    rw [show X.heap[Bx]? = _ from k2] at ho
    cases ho
    cases hc
  case assign =>
    rintro l pre x W K ⟨⟨v, hv, hrow, _⟩, hB⟩ hK
    gi_wp2
    exact hK _ _ ((KeepsOthers.alloc _ _).from _) ((Below.refl _ W).alloc hB.size _) ⟨⟨v, hv.alloc _, hrow.alloc _, trivial⟩, hB.alloc hB.size _⟩ ⟨W.heap.size, hv.lt, heap_at W _ rfl, rfl⟩
  case body =>
    rintro l pre x a' W hl ⟨r, hr⟩ ⟨⟨v, hv, hrow, _⟩, hB⟩ ⟨Bx, hBx, bX, rfl⟩ hlt
    have hc := hv.cell
    obtain ⟨z0, z1, z2, z3, z4⟩ := bX.cells
    gi_wp2_with (gi_at_builtin; refine wpListIn_append_own _ rfl _ _ 22 rfl w.heap.size 57 i0 (.agg #[.int .i64 0, .int .i64 0, .int .i64 0, .int .i64 0, .int .i64 0]) 5 40 Tryz.underlying22 hi hz0 hz1 hz2 rfl (by decide) _ _ _ rfl (hrow.alloc _) ⟨W.heap.size, 0, none⟩ 1 1 (pcV x) rfl rfl (CellsAt.all (by simp [CellsAt, go_sem, pcV])) (by simp [Value.oneCell', pcV]) (by simp only [maxLen]; omega) (by omega) (by have := hB.size; simp; omega) ?_; intro v' w1 hown' hgrow _; obtain ⟨g', cap', rfl⟩ := ownsRow_succ hown'; obtain ⟨hv1, hv2, hr2, hk2, hb2⟩ := hv.appended (by decide) hrow hB.size (Nat.le_refl _) hown' hgrow; have hc1 := hv1.cell; have hf1 := hv1.frozen)
    exact ⟨hk2.from _, hb2, ⟨⟨_, hv2, by simpa using hr2, trivial⟩, hB.trans hb2⟩⟩
  case done =>
    rintro D ys W hD rfl ⟨⟨v, hv, hrow, _⟩, hB⟩ hK
    have hc := hv.cell
    gi_wp2
    refine ⟨by simp, .inl ⟨_, _, rfl, run_takeDeferred hK, ?_⟩⟩
    exact ⟨_, results_tmp rfl _ _ _, v, rfl, ownsRow_putObj hrow _ hK rfl, hB.trans (belowK_b (w := w) (Nat.le_refl _) W D _ _ (by simp at hD; omega) hK rfl rfl)⟩
  case stop =>
    rintro D c pre W _ _ h _
    exact h.elim
end Go.Proofs.YteojlodcafogaaaGreatDoor
