/-
  What the rows of the texts' laws list. Without conditions.
-/
import Derived.Test.YtloioincminhiaaDoorOp
import Derived.Test.YtloioincminhiaaDoorP2
import Derived.Stop.LaidErr
namespace Go.Proofs.YtloioincminhiaaDoor
open Go.ChangeShapes Go.WideShapes Go.ChangeAt Go.RowKit Go.Joins
set_option linter.unusedVariables false
theorem star : "*" ++ "errors.errorString" = "*errors.errorString" := by decide
theorem rowE (u : TypeId) (h : Tryd.prog.typeName? 3 u = some "*errors.errorString") : u = 138 :=
  typeName_ptr_named (nm := "errors.errorString") (by rw [star]; kernel_rfl) (by kernel_rfl) (by decide) u (by rw [star]; exact h)
abbrev laidSeven : List (String × DataW Unit) := Rows.spanTextsRow.laid
theorem ev_of {g : Nat} {nm : String} {tp : TypeId} {p : Value} {W : World} (hg : Tryd.prog.globalNamed nm = some g) (h : W.var? Tryd.prog nm = some #[.iface tp p]) : Ev g W := by
  have h0 := World.var?_cell hg h 0
  exact ⟨.iface tp p, by simpa using h0, .inr ⟨tp, p, rfl⟩⟩
theorem wd_of {W : World} (h : laidMetH Tryd.prog laidSeven W) (hsh : W.ShapedOpen Tryd.prog) : Wd W := by
  have h3 := laidMet_tail (laidMet_tail h)
  have h4 := laidMet_tail (laidMet_tail h3)
  have h5 := laidMet_tail h4
  refine ⟨Lib.tabIs_of_head gTab gTabType Tryd.underlying111 Tryd.underlying91 cellsU cellsA h3, ?_, ?_, ?_⟩
  · exact Tryd.laysM146.s1_3 W hsh
  · obtain ⟨a, s, hv, _, _, _⟩ := laid_sentinel (tp := 138) (te := 140) (ts := 9) (g := 2) (ti := 59) h5 (by kernel_rfl) (by kernel_rfl) Tryd.underlying59 rowE Tryd.underlying138 Tryd.underlying140 rfl rfl Tryd.underlying9 (by kernel_rfl) (by kernel_rfl)
    exact ev_of (by kernel_rfl) hv
  · obtain ⟨a, s, hv, _, _, _⟩ := laid_sentinel (tp := 138) (te := 140) (ts := 9) (g := 3) (ti := 59) h4 (by kernel_rfl) (by kernel_rfl) Tryd.underlying59 rowE Tryd.underlying138 Tryd.underlying140 rfl rfl Tryd.underlying9 (by kernel_rfl) (by kernel_rfl)
    exact ev_of (by kernel_rfl) hv
def putCells (cs : Array Value) : Obj → Obj
  | .cells _ t fr => .cells cs t fr
  | o => o
def flatD : Nat → DataW Unit → List Value
  | _, .lit (.int k n) => [.int k n]
  | f + 1, .agg l => l.flatMap (flatD f)
  | _, _ => []
noncomputable def laidW (os : Os) : World :=
  { World.doorLaid Tryd.prog 100 os with heap := ((World.doorLaid Tryd.prog 100 os).heap.modify 6 (putCells (flatD 3 Rows.laid_unicode_utf8_first).toArray)).modify 7 (putCells (flatD 3 Rows.laid_unicode_utf8_acceptRanges).toArray) }
theorem met7 (os : Os) (args : Array Value) : laidMet Tryd.prog laidSeven ((laidW os).forCall (fun _ _ => 0) ⟨#[], args, []⟩).memory :=
  laidMet_of_run' 600 (by kernel_rfl) (by kernel_rfl)
end Go.Proofs.YtloioincminhiaaDoor
