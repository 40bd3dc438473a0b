/-
  Opening the arguments of these laws, and the table that the rows list. Without conditions.
-/
import Derived.Test.YtnnhbnkelgmaaaaDoorC5
import Derived.Test.YtnnhbnkelgmaaaaDoorCards
import Derived.Test.YtnnhbnkelgmaaaaDoorTie
import Derived.ProofKit
import Derived.OpenShut
import Derived.ShutString
import Derived.Deep.DeepHandedRow
import Derived.Lib.LaidTab
import Derived.Lib.SmallJoins
namespace Go.Proofs.YtnnhbnkelgmaaaaDoor
open Go.ChangeShapes Go.WideShapes Go.ChangeAt Go.RowKit Go.Joins
set_option linter.unusedVariables false
theorem own : ownKnob Tryd.prog.godebug = none := by kernel_rfl
theorem laidOut : laidOutB Tryd.prog = true := by kernel_rfl
theorem cellsI : Tryd.prog.cellsOf 2 = 1 := by kernel_rfl
theorem laidMet_tail {P : Program} {x : String × DataW Unit} {l : List (String × DataW Unit)} {w : World} (h : laidMet P (x :: l) w) : laidMet P l w := by
  obtain ⟨n, d⟩ := x
  obtain ⟨ps, ⟨g, t, cs, fuel, p, q, hg, ht, hv, hd, hl, rfl⟩, hnd, hc⟩ := h
  exact ⟨q, hl, (List.nodup_append.1 hnd).2.1, fun b off hb => hc b off (List.mem_append_right _ hb)⟩
theorem gTab : Tryd.prog.globalNamed "internal/strconv.uint64pow10" = some 0 := by kernel_rfl
theorem gTabType : (Tryd.prog.globals[0]?).map (·.type) = some 79 := by kernel_rfl
theorem cellsA : Tryd.prog.cellsOf 79 = 20 := by kernel_rfl
theorem cellsU : Tryd.prog.cellsOf 69 = 1 := by kernel_rfl
theorem tab3 {W : World} (h : laidMetH Tryd.prog Rows.shotsChecksRow.laid W) : Tab W :=
  Lib.tabIs_of_head (rest := []) gTab gTabType Tryd.underlying79 Tryd.underlying69 cellsU cellsA (laidMet_tail (laidMet_tail h))
theorem tab5 {W : World} (h : laidMetH Tryd.prog Rows.shotsTextsRow.laid W) : Tab W :=
  Lib.tabIs_of_head gTab gTabType Tryd.underlying79 Tryd.underlying69 cellsU cellsA (laidMet_tail (laidMet_tail h))
section
variable {H : Type} {enc : TypeId × Value → H} {w : World} {base : Nat} {spare : Nat → Bool} {held : Bool}
theorem open_list {r : Reach} {b0 : Nat} {v : Value} {d : DataW H} {p : List MemPlace} (hv : Value.okWide Tryd.prog w r b0 22 v) (h : DataW.Trod enc Tryd.prog w base spare held 22 v d p) :
    ∃ (A : Option Addr) (c : Nat) (xs : List Int), v = .slice A xs.length c ∧ IntsAt w A xs ∧ xs.length ≤ c ∧ c ≤ maxLen := by
  obtain ⟨a0, len, cap, rfl⟩ := okWide_slice Tryd.underlying22 hv
  obtain ⟨fuel, hf⟩ := h
  rcases open_ints Tryd.underlying22 Tryd.underlying2 cellsI hf with ⟨hcs, hx⟩ | ⟨a, len', cap', zs, hcs, _, hl, hm, hz, hx, hcell, hwz⟩
  · simp [Value.cells] at hcs
    obtain ⟨rfl, rfl, rfl⟩ := hcs
    exact ⟨none, 0, [], rfl, RowAt.nil _ _, Nat.le_refl _, Nat.zero_le _⟩
  · simp [Value.cells] at hcs
    obtain ⟨rfl, rfl, rfl⟩ := hcs
    have hlz : len ≤ zs.length := by rw [hz]; split <;> omega
    have hlen : (zs.take len).length = len := by rw [List.length_take]; omega
    refine ⟨some a, cap, zs.take len, by rw [hlen], ?_, by omega, hm⟩
    intro k u hu
    rw [List.getElem?_map, List.getElem?_take] at hu
    split at hu
    · rename_i hk
      have hk' : k < zs.length := by omega
      rw [List.getElem?_eq_getElem hk'] at hu
      simp at hu
      subst hu
      have hc := hcell k hk'
      rw [List.getD_eq_getElem?_getD, List.getElem?_eq_getElem hk'] at hc
      obtain ⟨b, off, spot⟩ := a
      cases spot with
      | none => exact ⟨b, off, rfl, by rwa [add_plain] at hc⟩
      | some s =>
        exfalso
        have h0 := hcell 0 (by omega)
        rw [show (⟨b, off, some s⟩ : Addr).add 0 = ⟨b, off, some s⟩ by simp [Addr.add]] at h0
        unfold World.cell? at h0
        split at h0 <;> simp at h0
    · cases hu
theorem open_num {r : Reach} {b0 : Nat} {v : Value} {d : DataW H} {p : List MemPlace} (hv : Value.okWide Tryd.prog w r b0 2 v) (h : DataW.Trod enc Tryd.prog w base spare held 2 v d p) :
    ∃ n : Int, v = .int .i64 n ∧ -9223372036854775808 ≤ n ∧ n ≤ 9223372036854775807 := by
  obtain ⟨n, rfl, _, _, wx⟩ := open_int Tryd.underlying2 hv h
  refine ⟨n, rfl, ?_⟩
  simp [Lit.wf] at wx
  have e : IntKind.i64.min = -9223372036854775808 := rfl
  rw [e] at wx
  exact wx
theorem cellsC : Tryd.prog.cellsOf 31 = 3 := by kernel_rfl
theorem cellsS : Tryd.prog.cellsOf 36 = 2 := by kernel_rfl
theorem open_tri {r : Reach} {b0 : Nat} {v : Value} {d : DataW H} {p : List MemPlace} (hv : Value.okWide Tryd.prog w r b0 31 v) (h : DataW.Trod enc Tryd.prog w base spare held 31 v d p) :
    ∃ f b a : Int, v = .agg #[.int .i64 f, .int .i64 b, .int .i64 a] := by
  obtain ⟨c0, c1, c2, y0, y1, y2, m, rfl, _, _, h0, h1, h2⟩ := open_agg3 Tryd.underlying31 (by kernel_rfl) cellsC hv h
  obtain ⟨x0, e0, _⟩ := DataW.trod_int Tryd.underlying2 h0
  obtain ⟨x1, e1, _⟩ := DataW.trod_int Tryd.underlying2 h1
  obtain ⟨x2, e2, _⟩ := DataW.trod_int Tryd.underlying2 h2
  simp at e0 e1 e2
  subst e0 e1 e2
  exact ⟨x0, x1, x2, rfl⟩
theorem open_duo {r : Reach} {b0 : Nat} {v : Value} {d : DataW H} {p : List MemPlace} (hv : Value.okWide Tryd.prog w r b0 36 v) (h : DataW.Trod enc Tryd.prog w base spare held 36 v d p) :
    ∃ i o : Int, v = .agg #[.int .i64 i, .int .i64 o] := by
  obtain ⟨c0, c1, y0, y1, m, rfl, _, _, h0, h1⟩ := open_agg2 Tryd.underlying36 (by kernel_rfl) cellsS hv h
  obtain ⟨x0, e0, _⟩ := DataW.trod_int Tryd.underlying2 h0
  obtain ⟨x1, e1, _⟩ := DataW.trod_int Tryd.underlying2 h1
  simp at e0 e1
  subst e0 e1
  exact ⟨x0, x1, rfl⟩
end
def putCells (cs : Array Value) : Obj → Obj
  | .cells _ t fr => .cells cs t fr
  | o => o
def laidHeap (h : Array Obj) : Array Obj :=
  ((h.modify 0 (putCells (Lib.pow10Tab.map (Value.int .u64)).toArray)).modify 2 (putCells #[.int .u8 0, .int .u8 1, .int .u8 28, .int .u8 2, .int .u8 29, .int .u8 14, .int .u8 24, .int .u8 3, .int .u8 30, .int .u8 22, .int .u8 20, .int .u8 15, .int .u8 25, .int .u8 17, .int .u8 4, .int .u8 8, .int .u8 31, .int .u8 27, .int .u8 13, .int .u8 23, .int .u8 21, .int .u8 19, .int .u8 16, .int .u8 7, .int .u8 26, .int .u8 12, .int .u8 18, .int .u8 6, .int .u8 11, .int .u8 5, .int .u8 10, .int .u8 9])).modify 3 (putCells #[.int .u8 0, .int .u8 1, .int .u8 56, .int .u8 2, .int .u8 57, .int .u8 49, .int .u8 28, .int .u8 3, .int .u8 61, .int .u8 58, .int .u8 42, .int .u8 50, .int .u8 38, .int .u8 29, .int .u8 17, .int .u8 4, .int .u8 62, .int .u8 47, .int .u8 59, .int .u8 36, .int .u8 45, .int .u8 43, .int .u8 51, .int .u8 22, .int .u8 53, .int .u8 39, .int .u8 33, .int .u8 30, .int .u8 24, .int .u8 18, .int .u8 12, .int .u8 5, .int .u8 63, .int .u8 55, .int .u8 48, .int .u8 27, .int .u8 60, .int .u8 41, .int .u8 37, .int .u8 16, .int .u8 46, .int .u8 35, .int .u8 44, .int .u8 21, .int .u8 52, .int .u8 32, .int .u8 23, .int .u8 11, .int .u8 54, .int .u8 26, .int .u8 40, .int .u8 15, .int .u8 34, .int .u8 20, .int .u8 31, .int .u8 10, .int .u8 25, .int .u8 14, .int .u8 19, .int .u8 9, .int .u8 13, .int .u8 8, .int .u8 7, .int .u8 6])
noncomputable def laidWorld (os : Os) : World :=
  { World.holding Tryd.prog os ⟨#[], #[], []⟩ with heap := laidHeap (World.holding Tryd.prog os ⟨#[], #[], []⟩).heap }
end Go.Proofs.YtnnhbnkelgmaaaaDoor
