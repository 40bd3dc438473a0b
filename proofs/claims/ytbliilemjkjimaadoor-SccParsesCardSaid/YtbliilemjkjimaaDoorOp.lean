/-
  Opening the arguments of these laws, and what the rows list. Without conditions.
-/
import Derived.Test.YtbliilemjkjimaaDoorCm
import Derived.Test.YtbliilemjkjimaaDoorCards
import Derived.Test.YtbliilemjkjimaaDoorTie
import Derived.ProofKit
import Derived.OpenShut
import Derived.ShutString
import Derived.Deep.DeepHandedRow
import Derived.Lib.LaidTab
import Derived.Lib.SmallJoins
import Derived.LaidMore
import Derived.ChangeSlices
namespace Go.Proofs.YtbliilemjkjimaaDoor
open Go.ChangeShapes Go.WideShapes Go.ChangeAt Go.RowKit Go.Joins
set_option linter.unusedVariables false
theorem own : ownKnob Tryd.prog.godebug = none := by kernel_rfl
theorem laidOut : laidOutB Tryd.prog = true := by kernel_rfl
abbrev laidAll : List (String × DataW Unit) := Rows.sccNormsRow.laid
theorem mx_of {W : World} (h : W.ShapedOpen Tryd.prog) : Mx W := Tryd.laysM146.s1_3 W h
def putCells (cs : Array Value) : Obj → Obj
  | .cells _ t fr => .cells cs t fr
  | o => o
def flatD : Nat → DataW Unit → List Value
  | _, .lit (.int k n) => [.int k n]
  | f + 1, .agg l => l.flatMap (flatD f)
  | _, _ => []
noncomputable def laidW (os : Os) : World :=
  { World.holding Tryd.prog os ⟨#[], #[], []⟩ with heap := ((World.holding Tryd.prog os ⟨#[], #[], []⟩).heap.modify 1 (putCells (flatD 3 Rows.laid_unicode_utf8_first).toArray)).modify 2 (putCells (flatD 3 Rows.laid_unicode_utf8_acceptRanges).toArray) }
theorem met (os : Os) (args : Array Value) : laidMet Tryd.prog laidAll ((laidW os).forCall (fun _ _ => 0) ⟨#[], args, []⟩).memory :=
  laidMet_of_run' 600 (by kernel_rfl) (by kernel_rfl)
section
variable {H : Type} {enc : TypeId × Value → H} {w : World} {base : Nat} {spare : Nat → Bool} {held : Bool}
theorem cellsSt : Tryd.prog.cellsOf 24 = 2 := by kernel_rfl
theorem cellsB : Tryd.prog.cellsOf 5 = 1 := by kernel_rfl
theorem byte_of {z : Int} (h : (Lit.int .u8 z).wf = true) : byteV (UInt8.ofNat z.toNat) = .int .u8 z := by
  simp [Lit.wf] at h
  have e1 : IntKind.u8.min = 0 := rfl
  have e2 : IntKind.u8.max = 255 := rfl
  rw [e1] at h
  unfold byteV
  congr 1
  rw [UInt8.toNat_ofNat']
  omega
set_option maxRecDepth 100000 in
theorem open_strm {r : Reach} {b0 : Nat} {v : Value} {d : DataW H} {p : List MemPlace} (hv : Value.okWide Tryd.prog w r b0 24 v) (h : DataW.Trod enc Tryd.prog w base spare held 24 v d p) :
    ∃ (f : Int) (A : Option Addr) (n c : Nat) (bs : List UInt8), v = strm f A n c ∧ BytesAt w A bs ∧ n = bs.length ∧ n ≤ c ∧ c ≤ maxLen ∧ (-9223372036854775808 ≤ f ∧ f ≤ 9223372036854775807) := by
  obtain ⟨c0, c1, y0, y1, m, rfl, _, _, h0, h1⟩ := open_agg2 Tryd.underlying24 (by kernel_rfl) cellsSt hv h
  obtain ⟨x0, e0, _, w0⟩ := DataW.trod_int Tryd.underlying2 h0
  simp at e0
  subst e0
  have hw0 : -9223372036854775808 ≤ x0 ∧ x0 ≤ 9223372036854775807 := by
    simp [Lit.wf] at w0
    have e : IntKind.i64.min = -9223372036854775808 := rfl
    rw [e] at w0
    exact w0
  rcases open_ints Tryd.underlying22 Tryd.underlying5 cellsB h1 with ⟨hcs, hx⟩ | ⟨a, len, cap, zs, hcs, _, hl, hm, hz, hx, hcell, hwz⟩
  · simp at hcs
    subst hcs
    exact ⟨x0, none, 0, 0, [], rfl, RowAt.nil _ _, rfl, Nat.le_refl _, Nat.zero_le _, hw0⟩
  · simp at hcs
    subst hcs
    have hlz : len ≤ zs.length := by rw [hz]; split <;> omega
    refine ⟨x0, some a, len, cap, (zs.take len).map fun z => UInt8.ofNat z.toNat, rfl, ?_, by simp; omega, hl, hm, hw0⟩
    intro k u hu
    rw [List.getElem?_map, List.getElem?_map, List.getElem?_take] at hu
    split at hu
    · rename_i hk
      have hk' : k < zs.length := by omega
      rw [List.getElem?_eq_getElem hk'] at hu
      simp at hu
      have hc := hcell k hk'
      rw [List.getD_eq_getElem?_getD, List.getElem?_eq_getElem hk'] at hc
      have hb : byteV (UInt8.ofNat zs[k].toNat) = .int .u8 zs[k] := byte_of (hwz _ (List.getElem_mem hk'))
      rw [hb] at hu
      subst hu
      obtain ⟨b, off, spot⟩ := a
      cases spot with
      | none => exact ⟨b, off, rfl, by rw [show ((⟨b, off, none⟩ : Addr).add k) = ⟨b, off + k, none⟩ from by cases k <;> simp [Addr.add]] at hc; exact hc⟩
      | some s =>
        exfalso
        have h0 := hcell 0 (by omega)
        rw [show (⟨b, off, some s⟩ : Addr).add 0 = ⟨b, off, some s⟩ by simp [Addr.add]] at h0
        unfold World.cell? at h0
        split at h0 <;> simp at h0
    · cases hu
set_option maxRecDepth 100000 in
theorem open_u32 {r : Reach} {b0 : Nat} {v : Value} {d : DataW H} {p : List MemPlace} (hv : Value.okWide Tryd.prog w r b0 25 v) (h : DataW.Trod enc Tryd.prog w base spare held 25 v d p) :
    ∃ n : Int, v = .int .u32 n ∧ 0 ≤ n ∧ n ≤ 4294967295 := by
  obtain ⟨n, rfl, _, _, wx⟩ := open_int Tryd.underlying25 hv h
  refine ⟨n, rfl, ?_⟩
  simp [Lit.wf] at wx
  have e : IntKind.u32.min = 0 := rfl
  rw [e] at wx
  exact wx
set_option maxRecDepth 100000 in
theorem open_u8 {r : Reach} {b0 : Nat} {v : Value} {d : DataW H} {p : List MemPlace} (hv : Value.okWide Tryd.prog w r b0 5 v) (h : DataW.Trod enc Tryd.prog w base spare held 5 v d p) :
    ∃ n : Int, v = .int .u8 n ∧ 0 ≤ n ∧ n ≤ 255 := by
  obtain ⟨n, rfl, _, _, wx⟩ := open_int Tryd.underlying5 hv h
  refine ⟨n, rfl, ?_⟩
  simp [Lit.wf] at wx
  have e : IntKind.u8.min = 0 := rfl
  rw [e] at wx
  exact wx
end
end Go.Proofs.YtbliilemjkjimaaDoor
