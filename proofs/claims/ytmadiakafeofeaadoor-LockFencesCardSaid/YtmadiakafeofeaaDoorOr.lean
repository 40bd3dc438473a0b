/-
  Opening a row of acts that came in. Without conditions.
-/
import Derived.Test.YtmadiakafeofeaaDoorOq
import Derived.Test.YtmadiakafeofeaaDoorAc
namespace Go.Proofs.YtmadiakafeofeaaDoor
open Go.ChangeShapes Go.WideShapes Go.ChangeAt Go.RowKit Go.Joins
set_option linter.unusedVariables false
section
variable {H : Type} {enc : TypeId × Value → H} {w : World} {base : Nat} {spare : Nat → Bool} {held : Bool}
theorem cellsAct : Tryd.prog.cellsOf 31 = 6 := by kernel_rfl
set_option maxRecDepth 100000 in
theorem open_acts {r0 : Reach} {b0 : Nat} {v : Value} {d : DataW H} {p : List MemPlace} (hv : Value.okWide Tryd.prog w r0 b0 22 v) (h : DataW.Trod enc Tryd.prog w base spare held 22 v d p) :
    ∃ n, ActsAt w w.heap.size v n := by
  obtain ⟨a0, len, cap, rfl⟩ := okWide_slice Tryd.underlying22 hv
  obtain ⟨fuel, hf⟩ := h
  rcases DataW.trod_slice Tryd.underlying22 hf with ⟨hcs, hx⟩ | ⟨a, len', cap', elems, rest, m, _, hcs, _, hb, hl, hm, hn, hcell, _, _⟩
  · simp [Value.cells] at hcs
    obtain ⟨rfl, rfl, rfl⟩ := hcs
    exact ⟨0, by decide, none, 0, rfl, fun i hi => by omega⟩
  · simp [Value.cells] at hcs
    obtain ⟨rfl, rfl, rfl⟩ := hcs
    refine ⟨len, by have hm9 : maxLen = 9223372036854775807 := rfl; omega, some a, cap, rfl, ?_⟩
    intro i hi
    have hc := hcell i hi
    rw [List.getElem?_eq_getElem (by omega), cellsAct] at hc
    obtain ⟨cs, hcs, ht⟩ := Option.bind_eq_some_iff.1 hc
    obtain ⟨_, hlen, hcc⟩ := World.cells?_some hcs
    obtain ⟨k, r, l, u, f, s, e, hs⟩ := act_of hlen ht
    obtain ⟨b, off, spot⟩ := a
    have hspot : spot = none := by
      cases spot with
      | none => rfl
      | some s =>
        exfalso
        have hc0 := hcell 0 (by omega)
        rw [List.getElem?_eq_getElem (by omega), cellsAct] at hc0
        obtain ⟨cs0, hcs0, ht0⟩ := Option.bind_eq_some_iff.1 hc0
        obtain ⟨_, hlen0, hcc0⟩ := World.cells?_some hcs0
        have h0 := hcc0 0 (by omega)
        rw [show ((⟨b, off, some s⟩ : Addr).add (0 * 6)).add 0 = ⟨b, off, some s⟩ by simp [Addr.add], List.getElem?_eq_getElem (by omega)] at h0
        unfold World.cell? at h0
        split at h0 <;> simp at h0
    subst hspot
    have hall : ∀ j z, (Ac.mk k r l u f s).cs[j]? = some z → w.cell? ⟨b, off + i * 6 + j, none⟩ = some z := by
      intro j u' hj
      have hj6 : j < 6 := by
        have := (List.getElem?_eq_some_iff.1 hj).1
        exact this
      have := hcc j hj6
      rw [add_plain, add_plain, e] at this
      exact this.trans hj
    refine ⟨b, off, ⟨k, r, l, u, f, s⟩, rfl, ?_, hall⟩
    have := hall 0 _ rfl
    exact World.block_lt_of_cell? w _ this
end
end Go.Proofs.YtmadiakafeofeaaDoor
