/-
  Opening the arguments. The conditions of the contracts are their hypotheses.
-/
import Derived.Test.YtneiljaknmeagaaGreatDoorLP
import Derived.Test.YtneiljaknmeagaaGreatDoorCards
import Derived.Test.YtneiljaknmeagaaGreatDoorTie
import Derived.ProofKit
import Derived.OpenShut
import Derived.ShutString
import Derived.Deep.DeepHandedRow
import Derived.Lib.LaidTab
import Derived.Lib.SmallJoins
import Derived.LaidMore
import Derived.ChangeSlices
import Derived.Stop.LaidErr
import Derived.Test.YtneiljaknmeagaaGreatDoorBc
namespace Go.Proofs.YtneiljaknmeagaaGreatDoor
open Go.ChangeShapes Go.WideShapes Go.ChangeAt Go.RowKit Go.Joins
set_option linter.unusedVariables false
theorem own : ownKnob Tryz.prog.godebug = none := by kernel_rfl
theorem laidOut : laidOutB Tryz.prog = true := by kernel_rfl
theorem laidMet_tail {P : Program} {x : String × DataW Unit} {l : List (String × DataW Unit)} {w : World} (h : laidMet P (x :: l) w) : laidMet P l w := by
  obtain ⟨n, d⟩ := x
  obtain ⟨ps, ⟨g, t, cs, fuel, p, q, hg, ht, hv, hd, hl, rfl⟩, hnd, hc⟩ := h
  exact ⟨q, hl, (List.nodup_append.1 hnd).2.1, fun b off hb => hc b off (List.mem_append_right _ hb)⟩
theorem gTab : Tryz.prog.globalNamed "internal/strconv.uint64pow10" = some 1 := by kernel_rfl
theorem gTabType : (Tryz.prog.globals[1]?).map (·.type) = some 138 := by kernel_rfl
theorem cellsA : Tryz.prog.cellsOf 138 = 20 := by kernel_rfl
theorem cellsU : Tryz.prog.cellsOf 103 = 1 := by kernel_rfl
section
variable {H : Type} {enc : TypeId × Value → H} {w : World} {base : Nat} {spare : Nat → Bool} {held : Bool}
set_option maxRecDepth 100000 in
theorem i64_of {n : Int} (wx : (Lit.int .i64 n).wf = true) : I64 n := by
  simp [Lit.wf] at wx
  have e : IntKind.i64.min = -9223372036854775808 := rfl
  rw [e] at wx
  exact wx
set_option maxRecDepth 100000 in
theorem open_num {r : Reach} {b0 : Nat} {v : Value} {d : DataW H} {p : List MemPlace} (hv : Value.okWide Tryz.prog w r b0 2 v) (h : DataW.Trod enc Tryz.prog w base spare held 2 v d p) :
    ∃ n : Int, v = .int .i64 n ∧ I64 n := by
  obtain ⟨n, rfl, _, _, wx⟩ := open_int Tryz.underlying2 hv h
  exact ⟨n, rfl, i64_of wx⟩
end
theorem len_of {s : ByteArray} (h : s.size ≤ maxLen) : s.size ≤ 9223372036854775807 := by simpa [maxLen] using h
theorem star : "*" ++ "errors.errorString" = "*errors.errorString" := by decide
theorem rowE (u : TypeId) (h : Tryz.prog.typeName? 3 u = some "*errors.errorString") : u = 163 :=
  typeName_ptr_named (nm := "errors.errorString") (by rw [star]; kernel_rfl) (by kernel_rfl) (by decide) u (by rw [star]; exact h)
abbrev laidSeven : List (String × DataW Unit) := Rows.lockParsesRow.laid
theorem ev_of {g : Nat} {nm : String} {tp : TypeId} {p : Value} {W : World} (hg : Tryz.prog.globalNamed nm = some g) (h : W.var? Tryz.prog nm = some #[.iface tp p]) : Ev g W := by
  have h0 := World.var?_cell hg h 0
  exact ⟨.iface tp p, by simpa using h0, .inr ⟨tp, p, rfl⟩⟩
theorem wd_of {W : World} (h : laidMetH Tryz.prog laidSeven W) (hsh : W.ShapedOpen Tryz.prog) : Wd W := by
  have h3 := laidMet_tail (laidMet_tail h)
  have h4 := laidMet_tail (laidMet_tail h3)
  have h5 := laidMet_tail h4
  refine ⟨Lib.tabIs_of_head gTab gTabType Tryz.underlying138 Tryz.underlying103 cellsU cellsA h3, ?_, ?_, ?_⟩
  · exact Tryz.laysM146.s1_3 W hsh
  · obtain ⟨a, s, hv, _, _, _⟩ := laid_sentinel (tp := 163) (te := 165) (ts := 9) (g := 4) (ti := 74) h5 (by kernel_rfl) (by kernel_rfl) Tryz.underlying74 rowE Tryz.underlying163 Tryz.underlying165 rfl rfl Tryz.underlying9 (by kernel_rfl) (by kernel_rfl)
    exact ev_of (by kernel_rfl) hv
  · obtain ⟨a, s, hv, _, _, _⟩ := laid_sentinel (tp := 163) (te := 165) (ts := 9) (g := 5) (ti := 74) h4 (by kernel_rfl) (by kernel_rfl) Tryz.underlying74 rowE Tryz.underlying163 Tryz.underlying165 rfl rfl Tryz.underlying9 (by kernel_rfl) (by kernel_rfl)
    exact ev_of (by kernel_rfl) hv
def putCells (cs : Array Value) : Obj → Obj
  | .cells _ t fr => .cells cs t fr
  | o => o
def flatD : Nat → DataW Unit → List Value
  | _, .lit (.int k n) => [.int k n]
  | f + 1, .agg l => l.flatMap (flatD f)
  | _, _ => []
noncomputable def laidW (os : Os) : World :=
  { World.doorLaid Tryz.prog 100 os with heap := ((World.doorLaid Tryz.prog 100 os).heap.modify 2 (putCells (flatD 3 Rows.laid_unicode_utf8_first).toArray)).modify 3 (putCells (flatD 3 Rows.laid_unicode_utf8_acceptRanges).toArray) }
theorem met7 (os : Os) (args : Array Value) : laidMet Tryz.prog laidSeven ((laidW os).forCall (fun _ _ => 0) ⟨#[], args, []⟩).memory :=
  laidMet_of_run' 600 (by kernel_rfl) (by kernel_rfl)
end Go.Proofs.YtneiljaknmeagaaGreatDoor
namespace Go.Proofs.YtneiljaknmeagaaGreatDoor
open Go.ChangeShapes Go.WideShapes Go.ChangeAt Go.RowKit Go.Joins
set_option linter.unusedVariables false
section
variable {H : Type} {enc : TypeId × Value → H} {w : World} {base : Nat} {spare : Nat → Bool} {held : Bool}
set_option maxRecDepth 100000 in
theorem act_of {fuel : Nat} {cs : List Value} {x : DataW H × List MemPlace} (hsz : cs.length = 6) (hf : DataW.trod enc Tryz.prog w base spare held fuel 41 cs = some x) :
    ∃ (k : Int) (r : Bool) (l u f : Int) (s : ByteArray), cs = [.int .u8 k, .bool r, .int .i64 l, .int .i64 u, .int .i64 f, .string s] ∧ s.size ≤ 9223372036854775807 ∧ 0 ≤ k ∧ k ≤ 255 := by
  obtain ⟨xs, n, _, _, _, hlen, hg⟩ := DataW.trod_struct Tryz.underlying41 hf
  match cs, hsz with
  | [a0, a1, a2, a3, a4, a5], _ =>
    match xs, hlen with
    | [x0, x1, x2, x3, x4, x5], _ =>
      have c0 : Tryz.prog.cellsOf 5 = 1 := by kernel_rfl
      have c1 : Tryz.prog.cellsOf 4 = 1 := by kernel_rfl
      have c2 : Tryz.prog.cellsOf 2 = 1 := by kernel_rfl
      have c3 : Tryz.prog.cellsOf 9 = 1 := by kernel_rfl
      obtain ⟨k, e0, _, wk⟩ := DataW.trod_int Tryz.underlying5 (hg 0 _ rfl)
      obtain ⟨r, e1, _⟩ := DataW.trod_bool Tryz.underlying4 (hg 1 _ rfl)
      obtain ⟨l, e2, _⟩ := DataW.trod_int Tryz.underlying2 (hg 2 _ rfl)
      obtain ⟨u, e3, _⟩ := DataW.trod_int Tryz.underlying2 (hg 3 _ rfl)
      obtain ⟨f, e4, _⟩ := DataW.trod_int Tryz.underlying2 (hg 4 _ rfl)
      obtain ⟨s, e5, _, hs⟩ := DataW.trod_string Tryz.underlying9 (hg 5 _ rfl)
      simp [c0, c1, c2, c3] at e0 e1 e2 e3 e4 e5
      subst e0 e1 e2 e3 e4 e5
      have hk : 0 ≤ k ∧ k ≤ 255 := by
        simp [Lit.wf] at wk
        have e : IntKind.u8.min = 0 := rfl
        have e2 : IntKind.u8.max = 255 := rfl
        rw [e] at wk
        first | exact wk | (rw [e2] at wk; exact wk) | (have := wk.1; have := wk.2; omega)
      exact ⟨k, r, l, u, f, s, rfl, len_of hs, hk⟩
theorem cellsAct : Tryz.prog.cellsOf 41 = 6 := by kernel_rfl
set_option maxRecDepth 100000 in
theorem open_acts {r0 : Reach} {b0 : Nat} {v : Value} {d : DataW H} {p : List MemPlace} (hv : Value.okWide Tryz.prog w r0 b0 36 v) (h : DataW.Trod enc Tryz.prog w base spare held 36 v d p) :
    ∃ n, ActsAt w w.heap.size v n := by
  obtain ⟨a0, len, cap, rfl⟩ := okWide_slice Tryz.underlying36 hv
  obtain ⟨fuel, hf⟩ := h
  rcases DataW.trod_slice Tryz.underlying36 hf with ⟨hcs, hx⟩ | ⟨a, len', cap', elems, rest, m, _, hcs, _, hb, hl, hm, hn, hcell, _, _⟩
  · simp [Value.cells] at hcs
    obtain ⟨rfl, rfl, rfl⟩ := hcs
    exact ⟨0, by decide, none, 0, rfl, fun i hi => by omega⟩
  · simp [Value.cells] at hcs
    obtain ⟨rfl, rfl, rfl⟩ := hcs
    refine ⟨len, by have hm9 : maxLen = 9223372036854775807 := rfl; omega, some a, cap, rfl, ?_⟩
    intro i hi
    have hc := hcell i hi
    rw [List.getElem?_eq_getElem (by omega), cellsAct] at hc
    obtain ⟨cs, hcs, ht⟩ := Option.bind_eq_some_iff.1 hc
    obtain ⟨_, hlen, hcc⟩ := World.cells?_some hcs
    obtain ⟨k, r, l, u, f, s, e, hs, hk⟩ := act_of hlen ht
    obtain ⟨b, off, spot⟩ := a
    have hspot : spot = none := by
      cases spot with
      | none => rfl
      | some s =>
        exfalso
        have hc0 := hcell 0 (by omega)
        rw [List.getElem?_eq_getElem (by omega), cellsAct] at hc0
        obtain ⟨cs0, hcs0, ht0⟩ := Option.bind_eq_some_iff.1 hc0
        obtain ⟨_, hlen0, hcc0⟩ := World.cells?_some hcs0
        have h0 := hcc0 0 (by omega)
        rw [show ((⟨b, off, some s⟩ : Addr).add (0 * 6)).add 0 = ⟨b, off, some s⟩ by simp [Addr.add], List.getElem?_eq_getElem (by omega)] at h0
        unfold World.cell? at h0
        split at h0 <;> simp at h0
    subst hspot
    have hall : ∀ j z, (Ac.mk k r l u f s).cs[j]? = some z → w.cell? ⟨b, off + i * 6 + j, none⟩ = some z := by
      intro j u' hj
      have hj6 : j < 6 := by
        have := (List.getElem?_eq_some_iff.1 hj).1
        exact this
      have := hcc j hj6
      rw [add_plain, add_plain, e] at this
      exact this.trans hj
    refine ⟨b, off, ⟨k, r, l, u, f, s⟩, rfl, ?_, ⟨hk, hs⟩, hall⟩
    have := hall 0 _ rfl
    exact World.block_lt_of_cell? w _ this
end
end Go.Proofs.YtneiljaknmeagaaGreatDoor
