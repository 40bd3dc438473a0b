/-
  The contract of joined in the reference. Its conditions are its hypotheses.
-/
import Derived.Test.YtfifeglkogablaaGreatDoorJ1
import Derived.Test.YtfifeglkogablaaGreatDoorJ2
import Derived.Laws.AppendOwnNone
namespace Go.Proofs.YtfifeglkogablaaGreatDoor
open Go.RowKit Go.Joins
set_option linter.unusedVariables false
set_option linter.unusedSimpArgs false
theorem newsp_take {w : World} {g o : Nat} {L : List Pc} (h : PcAt w (some ⟨g, o, none⟩) L) (k : Nat) : ∀ j u, ((L.take k).flatMap pcV)[j]? = some u → w.cell? ((⟨g, o, none⟩ : Addr).add j) = some u := by
  intro j u hj
  rw [← flat_take pcV_len] at hj
  obtain ⟨b, o', e, hc⟩ := RowAt.take h (k * 5) j u hj
  cases e
  rw [Addr.add_lit]
  exact hc
theorem newsp_drop {w : World} {g o : Nat} {L : List Pc} (h : PcAt w (some ⟨g, o, none⟩) L) (k : Nat) : ∀ j u, ((L.drop k).flatMap pcV)[j]? = some u → w.cell? ((⟨g, o + k * 5, none⟩ : Addr).add j) = some u := by
  intro j u hj
  rw [← flat_drop pcV_len, List.getElem?_drop] at hj
  obtain ⟨b, o', e, hc⟩ := h (k * 5 + j) u hj
  cases e
  rw [← Nat.add_assoc] at hc
  rw [Addr.add_lit]
  exact hc
end Go.Proofs.YtfifeglkogablaaGreatDoor

