/-
  Opening the arguments of these laws, and what the rows list. Without conditions.
-/
import Derived.Test.YtdccjkbhmpfcmaaDoorRc
import Derived.Test.YtdccjkbhmpfcmaaDoorCards
import Derived.Test.YtdccjkbhmpfcmaaDoorTie
import Derived.ProofKit
import Derived.OpenShut
import Derived.ShutString
import Derived.Deep.DeepHandedRow
import Derived.Lib.LaidTab
import Derived.Lib.SmallJoins
import Derived.LaidMore
import Derived.Stop.LaidErr
namespace Go.Proofs.YtdccjkbhmpfcmaaDoor
open Go.ChangeShapes Go.WideShapes Go.ChangeAt Go.RowKit Go.Joins
set_option linter.unusedVariables false
theorem own : ownKnob Tryd.prog.godebug = none := by kernel_rfl
theorem laidOut : laidOutB Tryd.prog = true := by kernel_rfl
theorem laidMet_tail {P : Program} {x : String × DataW Unit} {l : List (String × DataW Unit)} {w : World} (h : laidMet P (x :: l) w) : laidMet P l w := by
  obtain ⟨n, d⟩ := x
  obtain ⟨ps, ⟨g, t, cs, fuel, p, q, hg, ht, hv, hd, hl, rfl⟩, hnd, hc⟩ := h
  exact ⟨q, hl, (List.nodup_append.1 hnd).2.1, fun b off hb => hc b off (List.mem_append_right _ hb)⟩
theorem gTab : Tryd.prog.globalNamed "internal/strconv.uint64pow10" = some 2 := by kernel_rfl
theorem gTabType : (Tryd.prog.globals[2]?).map (·.type) = some 82 := by kernel_rfl
theorem cellsA : Tryd.prog.cellsOf 82 = 20 := by kernel_rfl
theorem cellsU : Tryd.prog.cellsOf 46 = 1 := by kernel_rfl
theorem star : "*" ++ "errors.errorString" = "*errors.errorString" := by decide
theorem rowE (u : TypeId) (h : Tryd.prog.typeName? 3 u = some "*errors.errorString") : u = 97 :=
  typeName_ptr_named (nm := "errors.errorString") (by rw [star]; kernel_rfl) (by kernel_rfl) (by decide) u (by rw [star]; exact h)
abbrev laidAll : List (String × DataW Unit) := Rows.ratioMakesRow.laid
theorem ev_of {g : Nat} {nm : String} {tp : TypeId} {p : Value} {W : World} (hg : Tryd.prog.globalNamed nm = some g) (h : W.var? Tryd.prog nm = some #[.iface tp p]) : Ev g W := by
  have h0 := World.var?_cell hg h 0
  exact ⟨.iface tp p, by simpa using h0, .inr ⟨tp, p, rfl⟩⟩
theorem wd_of {W : World} (h : laidMetH Tryd.prog laidAll W) (hsh : W.ShapedOpen Tryd.prog) : Wd W := by
  have h3 := laidMet_tail (laidMet_tail h)
  have h4 := laidMet_tail h3
  have h5 := laidMet_tail h4
  refine ⟨Lib.tabIs_of_head gTab gTabType Tryd.underlying82 Tryd.underlying46 cellsU cellsA h3, ?_, ?_, ?_⟩
  · exact Tryd.laysM145.s1_3 W hsh
  · obtain ⟨a, s, hv, _, _, _⟩ := laid_sentinel (tp := 97) (te := 99) (ts := 9) (g := 4) (ti := 54) h5 (by kernel_rfl) (by kernel_rfl) Tryd.underlying54 rowE Tryd.underlying97 Tryd.underlying99 rfl rfl Tryd.underlying9 (by kernel_rfl) (by kernel_rfl)
    exact ev_of (by kernel_rfl) hv
  · obtain ⟨a, s, hv, _, _, _⟩ := laid_sentinel (tp := 97) (te := 99) (ts := 9) (g := 5) (ti := 54) h4 (by kernel_rfl) (by kernel_rfl) Tryd.underlying54 rowE Tryd.underlying97 Tryd.underlying99 rfl rfl Tryd.underlying9 (by kernel_rfl) (by kernel_rfl)
    exact ev_of (by kernel_rfl) hv
theorem met (os : Os) (args : Array Value) : laidMet Tryd.prog laidAll ((World.doorLaid Tryd.prog 100 os).forCall (fun _ _ => 0) ⟨#[], args, []⟩).memory :=
  laidMet_of_run' 32 (by kernel_rfl) (by kernel_rfl)
section
variable {H : Type} {enc : TypeId × Value → H} {w : World} {base : Nat} {spare : Nat → Bool} {held : Bool}
theorem open_num {r : Reach} {b0 : Nat} {v : Value} {d : DataW H} {p : List MemPlace} (hv : Value.okWide Tryd.prog w r b0 2 v) (h : DataW.Trod enc Tryd.prog w base spare held 2 v d p) :
    ∃ n : Int, v = .int .i64 n ∧ -9223372036854775808 ≤ n ∧ n ≤ 9223372036854775807 := by
  obtain ⟨n, rfl, _, _, wx⟩ := open_int Tryd.underlying2 hv h
  refine ⟨n, rfl, ?_⟩
  simp [Lit.wf] at wx
  have e : IntKind.i64.min = -9223372036854775808 := rfl
  rw [e] at wx
  exact wx
theorem open_mode {r : Reach} {b0 : Nat} {v : Value} {d : DataW H} {p : List MemPlace} (hv : Value.okWide Tryd.prog w r b0 31 v) (h : DataW.Trod enc Tryd.prog w base spare held 31 v d p) :
    ∃ n : Int, v = .int .u8 n := by
  obtain ⟨n, rfl, _, _, wx⟩ := open_int Tryd.underlying31 hv h
  exact ⟨n, rfl⟩
theorem cellsR : Tryd.prog.cellsOf 24 = 2 := by kernel_rfl
theorem i64_of {n : Int} (wx : (Lit.int .i64 n).wf = true) : I64 n := by
  simp [Lit.wf] at wx
  have e : IntKind.i64.min = -9223372036854775808 := rfl
  rw [e] at wx
  exact wx
theorem open_rat {r : Reach} {b0 : Nat} {v : Value} {d : DataW H} {p : List MemPlace} (hv : Value.okWide Tryd.prog w r b0 24 v) (h : DataW.Trod enc Tryd.prog w base spare held 24 v d p) :
    ∃ i o : Int, v = rat i o ∧ I64 i ∧ I64 o := by
  obtain ⟨c0, c1, y0, y1, m, rfl, _, _, h0, h1⟩ := open_agg2 Tryd.underlying24 (by kernel_rfl) cellsR hv h
  obtain ⟨x0, e0, _, w0⟩ := DataW.trod_int Tryd.underlying2 h0
  obtain ⟨x1, e1, _, w1⟩ := DataW.trod_int Tryd.underlying2 h1
  simp at e0 e1
  subst e0 e1
  exact ⟨x0, x1, rfl, i64_of w0, i64_of w1⟩
end
theorem len_of {s : ByteArray} (h : s.size ≤ maxLen) : s.size ≤ 9223372036854775807 := by simpa [maxLen] using h
end Go.Proofs.YtdccjkbhmpfcmaaDoor
