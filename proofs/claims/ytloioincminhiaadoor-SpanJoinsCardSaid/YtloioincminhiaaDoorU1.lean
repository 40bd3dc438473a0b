/-
  The contracts of slices.Grow from nil and of slices.Concat of two lists of spans. Their conditions are their hypotheses.
-/
import Derived.Test.YtloioincminhiaaDoorN1
import Derived.Lib.AppendZeros
import Derived.Laws.AppendOwnNone
namespace Go.Proofs.YtloioincminhiaaDoor
open Go.RowKit Go.Joins
set_option linter.unusedVariables false
set_option linter.unusedSimpArgs false
theorem news_all {w : World} {ad : Addr} {L : List Spn} (h : SpAt w (some ad) L) : ∀ j u, (L.flatMap spV)[j]? = some u → w.cell? (ad.add j) = some u := by
  intro j u hj
  obtain ⟨b, o, e, hc⟩ := h j u hj
  cases e
  rw [Addr.add_lit]
  exact hc
/-- How a list's slice looks. -/
def Frm (A : Option Addr) (c : Nat) : Prop := (A = none ∧ c = 0) ∨ ∃ ad, A = some ad
theorem none_nil {w : World} {L : List Spn} (h : SpAt w none L) : L = [] := by
  cases L with
  | nil => rfl
  | cons x r =>
    obtain ⟨g, o, e⟩ := SpAt.some h (k := 0) (x := x) rfl
    cases e
set_option maxHeartbeats 1000000 in
theorem grow_any (n : Nat) (w : World) (hn : n ≤ 1000000) :
    Calls Tryd.prog 58 #[.slice none 0 0, .int .i64 n] w fun e w' => (∃ v, e = .returned v ∧ w'.ownsRow w.heap.size 32 2 v 0 []) ∧ Below w.heap.size w w' := by
  by_cases h0 : n = 0
  · subst h0
    go_enter Tryd.func58, Tryd.ntmps58
    go_wp2_with fail
    go_ret
    exact ⟨⟨_, rfl, World.ownsRow_nil _ _ _ _⟩, Below.refl _ _⟩
  · obtain ⟨i0, hi, hz0, hz1, hz2⟩ := info_parts infoS
    have hrz : ∀ ty, (Builtin.append_ #[22, 3] ty #[.slice none 0 0, .int .i64 n]).run Tryd.prog w = _ := fun ty => Lib.run_append_nil_zeros w 22 3 ty 32 i0 (.agg #[.int .i64 0, .int .i64 0]) .i64 .i64 Tryd.underlying22 Tryd.underlying3 hi hz0 n (by omega) (by omega) (by omega) (by rw [hz2]; omega)
    have hGn : n ≤ grownCap w n 0 32 := grownCap_ge w _ _ _
    have hGm : grownCap w n 0 32 ≤ maxLen := grownCap_le_maxLen w n 0 _ (by unfold maxLen; omega)
    generalize hG : grownCap w n 0 32 = G at *
    have hzs : (Builtin.zeroCells (Value.cells (.agg #[.int .i64 0, .int .i64 0])) n ++ Builtin.zeroCells (Value.cells (.agg #[.int .i64 0, .int .i64 0])) (G - n)).size = G * 2 := by
      have e : ∀ k, (Builtin.zeroCells (Value.cells (.agg #[.int .i64 0, .int .i64 0])) k).size = k * 2 := fun k => by simp [Builtin.zeroCells, Value.cells]
      rw [Array.size_append, e, e]
      omega
    generalize Builtin.zeroCells (Value.cells (.agg #[.int .i64 0, .int .i64 0])) n ++ Builtin.zeroCells (Value.cells (.agg #[.int .i64 0, .int .i64 0])) (G - n) = Z at *
    have HOW := Lib.hid (show (w.drew.alloc (.cells Z 32)).ownsRow w.heap.size 32 2 (.slice (some ⟨w.heap.size, 0, none⟩) 0 G) 0 [] from
      ⟨rfl, .inr ⟨w.heap.size, G, Z, rfl, Nat.le_refl _, heap_at w.drew _ rfl, Nat.zero_le _, hGm, hzs, rfl⟩⟩)
    have HB := Lib.hid (show Below w.heap.size w (w.drew.alloc (.cells Z 32)) from (Below.refl _ w).drew.alloc (Nat.le_refl _) _)
    have HRZ := Lib.hid hrz
    have h1 : (0 : Int) < (n : Int) := by omega
    have hGm' : G ≤ 9223372036854775807 := by simpa [maxLen] using hGm
    clear hi hz0 hz1 hz2 hzs hG hrz hGm
    go_enter Tryd.func58, Tryd.ntmps58
    go_wp2_with (at_builtin; refine Lib.wpList_append_run _ rfl _ _ _ _ rfl _ _ rfl rfl _ _ (HRZ.out _) ?_)
    go_ret
    exact ⟨⟨_, rfl, HOW.out⟩, HB.out⟩
end Go.Proofs.YtloioincminhiaaDoor
