/-
  The contracts of the two functions that lay the numbers of a table side by side. Without conditions.
-/
import Derived.Test.YtbebnbpdemdocaaDoorTw
namespace Go.Proofs.YtbebnbpdemdocaaDoor
open Go.RowKit
set_option linter.unusedVariables false
set_option linter.unusedSimpArgs false
def PhiR (B : Nat) (c0 c1 c2 c3 c4 c5 c6 c7 c8 c9 c10 c11 : Int) : Nat → Value → World → Prop
  | 3, v, _ => ∃ g, v = .slice (some ⟨g, 0, none⟩) 0 0
  | 4, v, _ => v = .pointer (some ⟨B, 0, none⟩)
  | 5, v, _ => v = .slice (some ⟨B, 0, none⟩) 6 6
  | 6, v, w => w.ownsRow (B + 1) 2 1 v 6 [.int .i64 c0, .int .i64 c1, .int .i64 c2, .int .i64 c3, .int .i64 c4, .int .i64 c5]
  | 7, v, _ => v = .pointer (some ⟨B, 6, none⟩)
  | 8, v, _ => v = .int .i64 c6
  | 9, v, _ => v = .pointer (some ⟨B, 7, none⟩)
  | 10, v, _ => v = .int .i64 c7
  | 11, v, _ => v = .pointer (some ⟨B, 8, none⟩)
  | 12, v, _ => v = .int .i64 c8
  | 13, v, _ => v = .pointer (some ⟨B, 9, none⟩)
  | 14, v, _ => v = .int .i64 c9
  | 15, v, _ => v = .pointer (some ⟨B, 10, none⟩)
  | 16, v, _ => v = .int .i64 c10
  | 17, v, _ => v = .pointer (some ⟨B, 11, none⟩)
  | 18, v, _ => v = .int .i64 c11
  | 19, v, w => ∃ g, v = .slice (some ⟨g, 0, none⟩) 6 6 ∧ CellsAt w g 0 [.int .i64 c6, .int .i64 c7, .int .i64 c8, .int .i64 c9, .int .i64 c10, .int .i64 c11]
  | _, _, _ => True
theorem PhiR.grown {B : Nat} {c0 c1 c2 c3 c4 c5 c6 c7 c8 c9 c10 c11 : Int} {w w' : World} (hg : w.grownBy w' none) : ∀ s u, PhiR B c0 c1 c2 c3 c4 c5 c6 c7 c8 c9 c10 c11 s u w → PhiR B c0 c1 c2 c3 c4 c5 c6 c7 c8 c9 c10 c11 s u w' := by
  intro s u h
  unfold PhiR at h ⊢
  split at h <;> (try exact h)
  · exact h.kept hg (by cases u.ownBlock <;> simp)
  · obtain ⟨g, hv, hc⟩ := h
    exact ⟨g, hv, hc.grown hg⟩
theorem numbersr_any (c0 c1 c2 c3 c4 c5 c6 c7 c8 c9 c10 c11 : Int) (w : World) :
    Calls Tryd.prog 19 #[.agg #[.int .i64 c0, .int .i64 c1, .int .i64 c2, .int .i64 c3, .int .i64 c4, .int .i64 c5, .int .i64 c6, .int .i64 c7, .int .i64 c8, .int .i64 c9, .int .i64 c10, .int .i64 c11]] w (Twelve w c0 c1 c2 c3 c4 c5 c6 c7 c8 c9 c10 c11) := by
  go_enter Tryd.func19, Tryd.ntmps19
  go_wp2_with fail
  obtain ⟨i0, hi, hz0, hz1, hz2⟩ := info_parts info2
  generalize hw1 : w.alloc (.cells #[.int .i64 c0, .int .i64 c1, .int .i64 c2, .int .i64 c3, .int .i64 c4, .int .i64 c5, .int .i64 c6, .int .i64 c7, .int .i64 c8, .int .i64 c9, .int .i64 c10, .int .i64 c11] 24) = w1
  have hcells : CellsAt w1 w.heap.size 0 [.int .i64 c0, .int .i64 c1, .int .i64 c2, .int .i64 c3, .int .i64 c4, .int .i64 c5, .int .i64 c6, .int .i64 c7, .int .i64 c8, .int .i64 c9, .int .i64 c10, .int .i64 c11] := by
    subst hw1; simp [CellsAt, go_sem]
  have hsize : w1.heap.size = w.heap.size + 1 := by subst hw1; simp
  have hb1 : Below w.heap.size w w1 := by subst hw1; exact (Below.refl _ _).alloc (Nat.le_refl _) _
  clear hw1
  generalize hB : w.heap.size = B at *
  refine wp_region_spec_tail 17 (by kernel_rfl) (fun w' => Below (B + 1) w1 w') (PhiR B c0 c1 c2 c3 c4 c5 c6 c7 c8 c9 c10 c11) 21 rfl (by kernel_rfl) (by kernel_rfl) (by kernel_rfl) (by kernel_rfl) (by kernel_rfl) (Below.refl _ _).drew ?hops ?hend
  case hops =>
    refine ⟨?o0, ?o1, ?o2, ?o3, ?o4, ?o5, ?o6, ?o7, ?o8, ?o9, ?o10, ?o11, ?o12, ?o13, ?o14, ?o15, ?o16, trivial⟩
    case o0 =>
      intro ev w2 hI hdep hfree
      clear hdep hfree
      dsimp only
      simp [OpRuns, execOp, evalOf, go_sem]
      exact ⟨below_grown hI (by have := hI.size; omega) (grown_alloc _ _), PhiR.grown (grown_alloc _ _), ⟨_, rfl⟩⟩
    case o1 =>
      intro ev w2 hI hdep hfree
      have h1 : ev 1 = .pointer (some ⟨B, 0, none⟩) := hfree 1 (by kernel_rfl)
      clear hdep hfree
      dsimp only
      simp [OpRuns, execOp, evalOf, h1, go_sem]
      exact ⟨hI, rfl⟩
    case o2 =>
      intro ev w2 hI hdep hfree
      have hx : ev 4 = .pointer (some ⟨B, 0, none⟩) := hdep 1 4 (by kernel_rfl) (by kernel_rfl)
      clear hdep hfree
      dsimp only
      simp [OpRuns, execOp, evalOf, hx, go_sem]
      exact ⟨hI, rfl⟩
    case o3 =>
      intro ev w2 hI hdep hfree
      obtain ⟨g, h3⟩ : ∃ g, ev 3 = .slice (some ⟨g, 0, none⟩) 0 0 := hdep 0 3 (by kernel_rfl) (by kernel_rfl)
      have h5 : ev 5 = .slice (some ⟨B, 0, none⟩) 6 6 := hdep 2 5 (by kernel_rfl) (by kernel_rfl)
      clear hdep hfree
      dsimp only
      have hc2 := hcells.below hI (by omega)
      obtain ⟨v', w', hrun, r1, r2⟩ := run_append_arg_grows (P := Tryd.prog) w2 43 43 2 i0 _ 1 8 Tryd.underlying43 hi hz0 hz1 hz2 rfl (by decide) ⟨g, 0, none⟩ 0 0 [] rfl (by simp) ⟨B, 0, none⟩ 6 6 [.int .i64 c0, .int .i64 c1, .int .i64 c2, .int .i64 c3, .int .i64 c4, .int .i64 c5] rfl (CellsAt.all (by simpa [CellsAt] using ⟨hc2.1, hc2.2.1, hc2.2.2.1, hc2.2.2.2.1, hc2.2.2.2.2.1, hc2.2.2.2.2.2.1⟩)) (by omega) (by decide) (by decide)
      simp [OpRuns, execOp, evalOf, resolve, invoke, builtin, h3, h5, hrun, Result.andThen]
      exact ⟨below_grown hI (by have := hI.size; omega) r2, PhiR.grown r2, ownsRow_mono r1 (by have := hI.size; omega)⟩
    case o4 =>
      intro ev w2 hI hdep hfree
      have h1 : ev 1 = .pointer (some ⟨B, 0, none⟩) := hfree 1 (by kernel_rfl)
      clear hdep hfree
      dsimp only
      simp [OpRuns, execOp, evalOf, h1, go_sem]
      exact ⟨hI, rfl⟩
    case o5 =>
      intro ev w2 hI hdep hfree
      have hx : ev 7 = .pointer (some ⟨B, 6, none⟩) := hdep 4 7 (by kernel_rfl) (by kernel_rfl)
      clear hdep hfree
      dsimp only
      have hc2 := hcells.below hI (by omega)
      have hy := hc2.2.2.2.2.2.2.1
      clear hc2
      simp [OpRuns, execOp, evalOf, hx, hy, go_sem]
      exact ⟨hI, rfl⟩
    case o6 =>
      intro ev w2 hI hdep hfree
      have h1 : ev 1 = .pointer (some ⟨B, 0, none⟩) := hfree 1 (by kernel_rfl)
      clear hdep hfree
      dsimp only
      simp [OpRuns, execOp, evalOf, h1, go_sem]
      exact ⟨hI, rfl⟩
    case o7 =>
      intro ev w2 hI hdep hfree
      have hx : ev 9 = .pointer (some ⟨B, 7, none⟩) := hdep 6 9 (by kernel_rfl) (by kernel_rfl)
      clear hdep hfree
      dsimp only
      have hc2 := hcells.below hI (by omega)
      have hy := hc2.2.2.2.2.2.2.2.1
      clear hc2
      simp [OpRuns, execOp, evalOf, hx, hy, go_sem]
      exact ⟨hI, rfl⟩
    case o8 =>
      intro ev w2 hI hdep hfree
      have h1 : ev 1 = .pointer (some ⟨B, 0, none⟩) := hfree 1 (by kernel_rfl)
      clear hdep hfree
      dsimp only
      simp [OpRuns, execOp, evalOf, h1, go_sem]
      exact ⟨hI, rfl⟩
    case o9 =>
      intro ev w2 hI hdep hfree
      have hx : ev 11 = .pointer (some ⟨B, 8, none⟩) := hdep 8 11 (by kernel_rfl) (by kernel_rfl)
      clear hdep hfree
      dsimp only
      have hc2 := hcells.below hI (by omega)
      have hy := hc2.2.2.2.2.2.2.2.2.1
      clear hc2
      simp [OpRuns, execOp, evalOf, hx, hy, go_sem]
      exact ⟨hI, rfl⟩
    case o10 =>
      intro ev w2 hI hdep hfree
      have h1 : ev 1 = .pointer (some ⟨B, 0, none⟩) := hfree 1 (by kernel_rfl)
      clear hdep hfree
      dsimp only
      simp [OpRuns, execOp, evalOf, h1, go_sem]
      exact ⟨hI, rfl⟩
    case o11 =>
      intro ev w2 hI hdep hfree
      have hx : ev 13 = .pointer (some ⟨B, 9, none⟩) := hdep 10 13 (by kernel_rfl) (by kernel_rfl)
      clear hdep hfree
      dsimp only
      have hc2 := hcells.below hI (by omega)
      have hy := hc2.2.2.2.2.2.2.2.2.2.1
      clear hc2
      simp [OpRuns, execOp, evalOf, hx, hy, go_sem]
      exact ⟨hI, rfl⟩
    case o12 =>
      intro ev w2 hI hdep hfree
      have h1 : ev 1 = .pointer (some ⟨B, 0, none⟩) := hfree 1 (by kernel_rfl)
      clear hdep hfree
      dsimp only
      simp [OpRuns, execOp, evalOf, h1, go_sem]
      exact ⟨hI, rfl⟩
    case o13 =>
      intro ev w2 hI hdep hfree
      have hx : ev 15 = .pointer (some ⟨B, 10, none⟩) := hdep 12 15 (by kernel_rfl) (by kernel_rfl)
      clear hdep hfree
      dsimp only
      have hc2 := hcells.below hI (by omega)
      have hy := hc2.2.2.2.2.2.2.2.2.2.2.1
      clear hc2
      simp [OpRuns, execOp, evalOf, hx, hy, go_sem]
      exact ⟨hI, rfl⟩
    case o14 =>
      intro ev w2 hI hdep hfree
      have h1 : ev 1 = .pointer (some ⟨B, 0, none⟩) := hfree 1 (by kernel_rfl)
      clear hdep hfree
      dsimp only
      simp [OpRuns, execOp, evalOf, h1, go_sem]
      exact ⟨hI, rfl⟩
    case o15 =>
      intro ev w2 hI hdep hfree
      have hx : ev 17 = .pointer (some ⟨B, 11, none⟩) := hdep 14 17 (by kernel_rfl) (by kernel_rfl)
      clear hdep hfree
      dsimp only
      have hc2 := hcells.below hI (by omega)
      have hy := hc2.2.2.2.2.2.2.2.2.2.2.2.1
      clear hc2
      simp [OpRuns, execOp, evalOf, hx, hy, go_sem]
      exact ⟨hI, rfl⟩
    case o16 =>
      intro ev w2 hI hdep hfree
      have h0 : ev 8 = .int .i64 c6 := hdep 5 8 (by kernel_rfl) (by kernel_rfl)
      have h1 : ev 10 = .int .i64 c7 := hdep 7 10 (by kernel_rfl) (by kernel_rfl)
      have h2 : ev 12 = .int .i64 c8 := hdep 9 12 (by kernel_rfl) (by kernel_rfl)
      have h3 : ev 14 = .int .i64 c9 := hdep 11 14 (by kernel_rfl) (by kernel_rfl)
      have h4 : ev 16 = .int .i64 c10 := hdep 13 16 (by kernel_rfl) (by kernel_rfl)
      have h5 : ev 18 = .int .i64 c11 := hdep 15 18 (by kernel_rfl) (by kernel_rfl)
      clear hdep hfree
      dsimp only
      simp [OpRuns, execOp, evalOf, h0, h1, h2, h3, h4, h5, go_sem]
      exact ⟨below_grown hI (by have := hI.size; omega) (grown_alloc _ _), PhiR.grown (grown_alloc _ _), ⟨_, rfl, by simp [CellsAt, go_sem]⟩⟩
  case hend =>
    intro a w2 hd hs hI hv hk
    obtain ⟨g, h19, hc⟩ := hv 16 19 (by decide) rfl
    have hd : a.defers = [] := hd
    have hs : a.tmps.size = 21 := hs
    have h6 := hv 3 6 (by decide) rfl
    clear hv hk
    refine wpList_append_own w2 rfl (.tmp 6) (.tmp 19) 43 rfl (B + 1) 2 i0 _ 1 8 Tryd.underlying43 hi hz0 hz1 hz2 rfl (by decide) _ 6 _ rfl h6 ⟨g, 0, none⟩ 6 6 [.int .i64 c6, .int .i64 c7, .int .i64 c8, .int .i64 c9, .int .i64 c10, .int .i64 c11] h19 rfl hc.all (by simp [Value.oneCell']) (by decide) (by decide) (by have := hI.size; omega) ?_
    intro v w3 hown hgr _
    have hr6 : ∀ k, (a.eval (.tmp 6)).ownBlock = some k → B ≤ k := fun k hk => by have := (World.ownsRow.lt h6 k hk).1; omega
    clear hc
    go_wp2
    go_ret
    have hsl : 2 < a.tmps.size := by rw [hs]; decide
    rw [show ({ tmps := (a.tmps.setIfInBounds 20 v).setIfInBounds 2 v, defers := [] } : Act).tmps.getD 2 undef = v by simp [hsl]]
    refine Twelve.mk (by rw [hB]; exact ownsRow_mono hown (by omega)) ?_
    rw [hB]
    exact (hb1.trans (hI.mono (by omega))).grown hgr (by have := hI.size; omega) hr6
def PhiP (B : Nat) (c0 c1 c2 c3 c4 c5 c6 c7 c8 c9 c10 c11 : Int) : Nat → Value → World → Prop
  | 3, v, _ => v = .pointer (some ⟨B, 0, none⟩)
  | 4, v, _ => v = .slice (some ⟨B, 0, none⟩) 6 6
  | 5, v, _ => v = .pointer (some ⟨B, 6, none⟩)
  | 6, v, _ => v = .int .i64 c6
  | 7, v, _ => v = .pointer (some ⟨B, 7, none⟩)
  | 8, v, _ => v = .int .i64 c7
  | 9, v, _ => v = .pointer (some ⟨B, 8, none⟩)
  | 10, v, _ => v = .int .i64 c8
  | 11, v, _ => v = .pointer (some ⟨B, 9, none⟩)
  | 12, v, _ => v = .int .i64 c9
  | 13, v, _ => v = .pointer (some ⟨B, 10, none⟩)
  | 14, v, _ => v = .int .i64 c10
  | 15, v, _ => v = .pointer (some ⟨B, 11, none⟩)
  | 16, v, _ => v = .int .i64 c11
  | 17, v, w => ∃ g, v = .slice (some ⟨g, 0, none⟩) 6 6 ∧ CellsAt w g 0 [.int .i64 c6, .int .i64 c7, .int .i64 c8, .int .i64 c9, .int .i64 c10, .int .i64 c11]
  | _, _, _ => True
theorem PhiP.grown {B : Nat} {c0 c1 c2 c3 c4 c5 c6 c7 c8 c9 c10 c11 : Int} {w w' : World} (hg : w.grownBy w' none) : ∀ s u, PhiP B c0 c1 c2 c3 c4 c5 c6 c7 c8 c9 c10 c11 s u w → PhiP B c0 c1 c2 c3 c4 c5 c6 c7 c8 c9 c10 c11 s u w' := by
  intro s u h
  unfold PhiP at h ⊢
  split at h <;> (try exact h)
  · obtain ⟨g, hv, hc⟩ := h
    exact ⟨g, hv, hc.grown hg⟩
theorem numbers_any (c0 c1 c2 c3 c4 c5 c6 c7 c8 c9 c10 c11 : Int) (w : World) :
    Calls Tryd.prog 16 #[.agg #[.int .i64 c0, .int .i64 c1, .int .i64 c2, .int .i64 c3, .int .i64 c4, .int .i64 c5, .int .i64 c6, .int .i64 c7, .int .i64 c8, .int .i64 c9, .int .i64 c10, .int .i64 c11]] w (Twelve w c0 c1 c2 c3 c4 c5 c6 c7 c8 c9 c10 c11) := by
  go_enter Tryd.func16, Tryd.ntmps16
  go_wp2_with fail
  obtain ⟨i0, hi, hz0, hz1, hz2⟩ := info_parts info2
  generalize hw1 : w.alloc (.cells #[.int .i64 c0, .int .i64 c1, .int .i64 c2, .int .i64 c3, .int .i64 c4, .int .i64 c5, .int .i64 c6, .int .i64 c7, .int .i64 c8, .int .i64 c9, .int .i64 c10, .int .i64 c11] 24) = w1
  have hcells : CellsAt w1 w.heap.size 0 [.int .i64 c0, .int .i64 c1, .int .i64 c2, .int .i64 c3, .int .i64 c4, .int .i64 c5, .int .i64 c6, .int .i64 c7, .int .i64 c8, .int .i64 c9, .int .i64 c10, .int .i64 c11] := by
    subst hw1; simp [CellsAt, go_sem]
  have hsize : w1.heap.size = w.heap.size + 1 := by subst hw1; simp
  have hb1 : Below w.heap.size w w1 := by subst hw1; exact (Below.refl _ _).alloc (Nat.le_refl _) _
  clear hw1
  generalize hB : w.heap.size = B at *
  refine wp_region_spec_tail 15 (by kernel_rfl) (fun w' => Below (B + 1) w1 w') (PhiP B c0 c1 c2 c3 c4 c5 c6 c7 c8 c9 c10 c11) 19 rfl (by kernel_rfl) (by kernel_rfl) (by kernel_rfl) (by kernel_rfl) (by kernel_rfl) (Below.refl _ _).drew ?hops ?hend
  case hops =>
    refine ⟨?o0, ?o1, ?o2, ?o3, ?o4, ?o5, ?o6, ?o7, ?o8, ?o9, ?o10, ?o11, ?o12, ?o13, ?o14, trivial⟩
    case o0 =>
      intro ev w2 hI hdep hfree
      have h1 : ev 1 = .pointer (some ⟨B, 0, none⟩) := hfree 1 (by kernel_rfl)
      clear hdep hfree
      dsimp only
      simp [OpRuns, execOp, evalOf, h1, go_sem]
      exact ⟨hI, rfl⟩
    case o1 =>
      intro ev w2 hI hdep hfree
      have hx : ev 3 = .pointer (some ⟨B, 0, none⟩) := hdep 0 3 (by kernel_rfl) (by kernel_rfl)
      clear hdep hfree
      dsimp only
      simp [OpRuns, execOp, evalOf, hx, go_sem]
      exact ⟨hI, rfl⟩
    case o2 =>
      intro ev w2 hI hdep hfree
      have h1 : ev 1 = .pointer (some ⟨B, 0, none⟩) := hfree 1 (by kernel_rfl)
      clear hdep hfree
      dsimp only
      simp [OpRuns, execOp, evalOf, h1, go_sem]
      exact ⟨hI, rfl⟩
    case o3 =>
      intro ev w2 hI hdep hfree
      have hx : ev 5 = .pointer (some ⟨B, 6, none⟩) := hdep 2 5 (by kernel_rfl) (by kernel_rfl)
      clear hdep hfree
      dsimp only
      have hc2 := hcells.below hI (by omega)
      have hy := hc2.2.2.2.2.2.2.1
      clear hc2
      simp [OpRuns, execOp, evalOf, hx, hy, go_sem]
      exact ⟨hI, rfl⟩
    case o4 =>
      intro ev w2 hI hdep hfree
      have h1 : ev 1 = .pointer (some ⟨B, 0, none⟩) := hfree 1 (by kernel_rfl)
      clear hdep hfree
      dsimp only
      simp [OpRuns, execOp, evalOf, h1, go_sem]
      exact ⟨hI, rfl⟩
    case o5 =>
      intro ev w2 hI hdep hfree
      have hx : ev 7 = .pointer (some ⟨B, 7, none⟩) := hdep 4 7 (by kernel_rfl) (by kernel_rfl)
      clear hdep hfree
      dsimp only
      have hc2 := hcells.below hI (by omega)
      have hy := hc2.2.2.2.2.2.2.2.1
      clear hc2
      simp [OpRuns, execOp, evalOf, hx, hy, go_sem]
      exact ⟨hI, rfl⟩
    case o6 =>
      intro ev w2 hI hdep hfree
      have h1 : ev 1 = .pointer (some ⟨B, 0, none⟩) := hfree 1 (by kernel_rfl)
      clear hdep hfree
      dsimp only
      simp [OpRuns, execOp, evalOf, h1, go_sem]
      exact ⟨hI, rfl⟩
    case o7 =>
      intro ev w2 hI hdep hfree
      have hx : ev 9 = .pointer (some ⟨B, 8, none⟩) := hdep 6 9 (by kernel_rfl) (by kernel_rfl)
      clear hdep hfree
      dsimp only
      have hc2 := hcells.below hI (by omega)
      have hy := hc2.2.2.2.2.2.2.2.2.1
      clear hc2
      simp [OpRuns, execOp, evalOf, hx, hy, go_sem]
      exact ⟨hI, rfl⟩
    case o8 =>
      intro ev w2 hI hdep hfree
      have h1 : ev 1 = .pointer (some ⟨B, 0, none⟩) := hfree 1 (by kernel_rfl)
      clear hdep hfree
      dsimp only
      simp [OpRuns, execOp, evalOf, h1, go_sem]
      exact ⟨hI, rfl⟩
    case o9 =>
      intro ev w2 hI hdep hfree
      have hx : ev 11 = .pointer (some ⟨B, 9, none⟩) := hdep 8 11 (by kernel_rfl) (by kernel_rfl)
      clear hdep hfree
      dsimp only
      have hc2 := hcells.below hI (by omega)
      have hy := hc2.2.2.2.2.2.2.2.2.2.1
      clear hc2
      simp [OpRuns, execOp, evalOf, hx, hy, go_sem]
      exact ⟨hI, rfl⟩
    case o10 =>
      intro ev w2 hI hdep hfree
      have h1 : ev 1 = .pointer (some ⟨B, 0, none⟩) := hfree 1 (by kernel_rfl)
      clear hdep hfree
      dsimp only
      simp [OpRuns, execOp, evalOf, h1, go_sem]
      exact ⟨hI, rfl⟩
    case o11 =>
      intro ev w2 hI hdep hfree
      have hx : ev 13 = .pointer (some ⟨B, 10, none⟩) := hdep 10 13 (by kernel_rfl) (by kernel_rfl)
      clear hdep hfree
      dsimp only
      have hc2 := hcells.below hI (by omega)
      have hy := hc2.2.2.2.2.2.2.2.2.2.2.1
      clear hc2
      simp [OpRuns, execOp, evalOf, hx, hy, go_sem]
      exact ⟨hI, rfl⟩
    case o12 =>
      intro ev w2 hI hdep hfree
      have h1 : ev 1 = .pointer (some ⟨B, 0, none⟩) := hfree 1 (by kernel_rfl)
      clear hdep hfree
      dsimp only
      simp [OpRuns, execOp, evalOf, h1, go_sem]
      exact ⟨hI, rfl⟩
    case o13 =>
      intro ev w2 hI hdep hfree
      have hx : ev 15 = .pointer (some ⟨B, 11, none⟩) := hdep 12 15 (by kernel_rfl) (by kernel_rfl)
      clear hdep hfree
      dsimp only
      have hc2 := hcells.below hI (by omega)
      have hy := hc2.2.2.2.2.2.2.2.2.2.2.2.1
      clear hc2
      simp [OpRuns, execOp, evalOf, hx, hy, go_sem]
      exact ⟨hI, rfl⟩
    case o14 =>
      intro ev w2 hI hdep hfree
      have h0 : ev 6 = .int .i64 c6 := hdep 3 6 (by kernel_rfl) (by kernel_rfl)
      have h1 : ev 8 = .int .i64 c7 := hdep 5 8 (by kernel_rfl) (by kernel_rfl)
      have h2 : ev 10 = .int .i64 c8 := hdep 7 10 (by kernel_rfl) (by kernel_rfl)
      have h3 : ev 12 = .int .i64 c9 := hdep 9 12 (by kernel_rfl) (by kernel_rfl)
      have h4 : ev 14 = .int .i64 c10 := hdep 11 14 (by kernel_rfl) (by kernel_rfl)
      have h5 : ev 16 = .int .i64 c11 := hdep 13 16 (by kernel_rfl) (by kernel_rfl)
      clear hdep hfree
      dsimp only
      simp [OpRuns, execOp, evalOf, h0, h1, h2, h3, h4, h5, go_sem]
      exact ⟨below_grown hI (by have := hI.size; omega) (grown_alloc _ _), PhiP.grown (grown_alloc _ _), ⟨_, rfl, by simp [CellsAt, go_sem]⟩⟩
  case hend =>
    intro a w2 hd hs hI hv hk
    obtain ⟨g, h19, hc⟩ := hv 14 17 (by decide) rfl
    have hd : a.defers = [] := hd
    have hs : a.tmps.size = 19 := hs
    have h4 : a.tmps.getD 4 undef = .slice (some ⟨B, 0, none⟩) 6 6 := hv 1 4 (by decide) rfl
    clear hv hk
    have hc2 := hcells.below hI (by omega)
    refine wpList_append_grows w2 rfl (.tmp 4) (.tmp 17) 43 rfl 2 i0 _ 1 8 Tryd.underlying43 hi hz0 hz1 hz2 rfl (by decide) (some ⟨B, 0, none⟩) 6 6 [.int .i64 c0, .int .i64 c1, .int .i64 c2, .int .i64 c3, .int .i64 c4, .int .i64 c5] h4 (by simp) rfl (fun b hb => by cases hb; exact CellsAt.all (by simpa [CellsAt] using ⟨hc2.1, hc2.2.1, hc2.2.2.1, hc2.2.2.2.1, hc2.2.2.2.2.1, hc2.2.2.2.2.2.1⟩)) ⟨g, 0, none⟩ 6 6 [.int .i64 c6, .int .i64 c7, .int .i64 c8, .int .i64 c9, .int .i64 c10, .int .i64 c11] h19 rfl hc.all (by simp [Value.oneCell']) (by omega) (by decide) (by decide) ?_
    intro v w3 hown hgr
    clear hc
    go_wp2
    go_ret
    have hsl : 2 < a.tmps.size := by rw [hs]; decide
    rw [show ({ tmps := (a.tmps.setIfInBounds 18 v).setIfInBounds 2 v, defers := [] } : Act).tmps.getD 2 undef = v by simp [hsl]]
    refine Twelve.mk (by rw [hB]; exact ownsRow_mono hown (by have := hI.size; omega)) ?_
    rw [hB]
    exact (hb1.trans (hI.mono (by omega))).grown hgr (by have := hI.size; omega) (by simp)
end Go.Proofs.YtbebnbpdemdocaaDoor
