/-
  Opening the arguments of these laws, and what the rows list. Without conditions.
-/
import Derived.Test.YtneiljaknmeagaaGreatDoorLP
import Derived.Test.YtneiljaknmeagaaGreatDoorCards
import Derived.Test.YtneiljaknmeagaaGreatDoorTie
import Derived.ProofKit
import Derived.OpenShut
import Derived.ShutString
import Derived.Deep.DeepHandedRow
import Derived.Lib.LaidTab
import Derived.Lib.SmallJoins
import Derived.LaidMore
import Derived.ChangeSlices
import Derived.Stop.LaidErr
namespace Go.Proofs.YtneiljaknmeagaaGreatDoor
open Go.ChangeShapes Go.WideShapes Go.ChangeAt Go.RowKit Go.Joins
set_option linter.unusedVariables false
theorem own : ownKnob Tryz.prog.godebug = none := by kernel_rfl
theorem laidOut : laidOutB Tryz.prog = true := by kernel_rfl
theorem laidMet_tail {P : Program} {x : String × DataW Unit} {l : List (String × DataW Unit)} {w : World} (h : laidMet P (x :: l) w) : laidMet P l w := by
  obtain ⟨n, d⟩ := x
  obtain ⟨ps, ⟨g, t, cs, fuel, p, q, hg, ht, hv, hd, hl, rfl⟩, hnd, hc⟩ := h
  exact ⟨q, hl, (List.nodup_append.1 hnd).2.1, fun b off hb => hc b off (List.mem_append_right _ hb)⟩
theorem gTab : Tryz.prog.globalNamed "internal/strconv.uint64pow10" = some 1 := by kernel_rfl
theorem gTabType : (Tryz.prog.globals[1]?).map (·.type) = some 138 := by kernel_rfl
theorem cellsA : Tryz.prog.cellsOf 138 = 20 := by kernel_rfl
theorem cellsU : Tryz.prog.cellsOf 103 = 1 := by kernel_rfl
section
variable {H : Type} {enc : TypeId × Value → H} {w : World} {base : Nat} {spare : Nat → Bool} {held : Bool}
set_option maxRecDepth 100000 in
theorem i64_of {n : Int} (wx : (Lit.int .i64 n).wf = true) : I64 n := by
  simp [Lit.wf] at wx
  have e : IntKind.i64.min = -9223372036854775808 := rfl
  rw [e] at wx
  exact wx
set_option maxRecDepth 100000 in
theorem open_num {r : Reach} {b0 : Nat} {v : Value} {d : DataW H} {p : List MemPlace} (hv : Value.okWide Tryz.prog w r b0 2 v) (h : DataW.Trod enc Tryz.prog w base spare held 2 v d p) :
    ∃ n : Int, v = .int .i64 n ∧ I64 n := by
  obtain ⟨n, rfl, _, _, wx⟩ := open_int Tryz.underlying2 hv h
  exact ⟨n, rfl, i64_of wx⟩
end
theorem len_of {s : ByteArray} (h : s.size ≤ maxLen) : s.size ≤ 9223372036854775807 := by simpa [maxLen] using h
theorem star : "*" ++ "errors.errorString" = "*errors.errorString" := by decide
theorem rowE (u : TypeId) (h : Tryz.prog.typeName? 3 u = some "*errors.errorString") : u = 163 :=
  typeName_ptr_named (nm := "errors.errorString") (by rw [star]; kernel_rfl) (by kernel_rfl) (by decide) u (by rw [star]; exact h)
abbrev laidSeven : List (String × DataW Unit) := Rows.lockParsesRow.laid
theorem ev_of {g : Nat} {nm : String} {tp : TypeId} {p : Value} {W : World} (hg : Tryz.prog.globalNamed nm = some g) (h : W.var? Tryz.prog nm = some #[.iface tp p]) : Ev g W := by
  have h0 := World.var?_cell hg h 0
  exact ⟨.iface tp p, by simpa using h0, .inr ⟨tp, p, rfl⟩⟩
theorem wd_of {W : World} (h : laidMetH Tryz.prog laidSeven W) (hsh : W.ShapedOpen Tryz.prog) : Wd W := by
  have h3 := laidMet_tail (laidMet_tail h)
  have h4 := laidMet_tail (laidMet_tail h3)
  have h5 := laidMet_tail h4
  refine ⟨Lib.tabIs_of_head gTab gTabType Tryz.underlying138 Tryz.underlying103 cellsU cellsA h3, ?_, ?_, ?_⟩
  · exact Tryz.laysM146.s1_3 W hsh
  · obtain ⟨a, s, hv, _, _, _⟩ := laid_sentinel (tp := 163) (te := 165) (ts := 9) (g := 4) (ti := 74) h5 (by kernel_rfl) (by kernel_rfl) Tryz.underlying74 rowE Tryz.underlying163 Tryz.underlying165 rfl rfl Tryz.underlying9 (by kernel_rfl) (by kernel_rfl)
    exact ev_of (by kernel_rfl) hv
  · obtain ⟨a, s, hv, _, _, _⟩ := laid_sentinel (tp := 163) (te := 165) (ts := 9) (g := 5) (ti := 74) h4 (by kernel_rfl) (by kernel_rfl) Tryz.underlying74 rowE Tryz.underlying163 Tryz.underlying165 rfl rfl Tryz.underlying9 (by kernel_rfl) (by kernel_rfl)
    exact ev_of (by kernel_rfl) hv
def putCells (cs : Array Value) : Obj → Obj
  | .cells _ t fr => .cells cs t fr
  | o => o
def flatD : Nat → DataW Unit → List Value
  | _, .lit (.int k n) => [.int k n]
  | f + 1, .agg l => l.flatMap (flatD f)
  | _, _ => []
noncomputable def laidW (os : Os) : World :=
  { World.doorLaid Tryz.prog 100 os with heap := ((World.doorLaid Tryz.prog 100 os).heap.modify 2 (putCells (flatD 3 Rows.laid_unicode_utf8_first).toArray)).modify 3 (putCells (flatD 3 Rows.laid_unicode_utf8_acceptRanges).toArray) }
theorem met7 (os : Os) (args : Array Value) : laidMet Tryz.prog laidSeven ((laidW os).forCall (fun _ _ => 0) ⟨#[], args, []⟩).memory :=
  laidMet_of_run' 600 (by kernel_rfl) (by kernel_rfl)
end Go.Proofs.YtneiljaknmeagaaGreatDoor
