/-
  Texts and words of spans, and their equality. The conditions of the contracts are their hypotheses.
-/
import Derived.Test.YtmopjhbfobmklaaGreatDoorMBf
import Derived.Test.YtmopjhbfobmklaaGreatDoorShelf
import Derived.Lib.ItoaLen
import Derived.Lib.AppendIntMem
import Derived.Deep.RegionLaw
import Derived.BigRegion
import Derived.Test.YtmopjhbfobmklaaGreatDoorMBa
import Derived.Lib.ParseIntB
import Derived.Lib.SplitLaws
import Derived.Lib.Join
set_option maxRecDepth 100000
set_option maxHeartbeats 40000000
namespace Go.Proofs.YtmopjhbfobmklaaGreatDoor
open Go.RowKit Go.Joins
set_option linter.unusedVariables false
set_option linter.unusedSimpArgs false
abbrev Tab (w : World) : Prop := Lib.TabIs Tryz.prog w "internal/strconv.uint64pow10" .u64 Lib.pow10Tab
theorem Tab.on {w w' : World} (h : Tab w) (hb : Below w.heap.size w w') : Tab w' := ((Lib.tabBelow_of_tabIs h).on hb).here
theorem chk_bd {L : List Spn} (h : chkS L = 0) : ∀ x ∈ L, 0 ≤ x.i ∧ x.i ≤ 10378368000 ∧ 0 ≤ x.o ∧ x.o ≤ 10378368000 := by
 obtain ⟨_, hc, hb⟩ := chkS_ok.1 h
 intro x hx
 have h1 := can_pos hc x hx
 have h2 := hb x hx
 have : x.o ≤ 10378368000 := h2.2
 omega
end Go.Proofs.YtmopjhbfobmklaaGreatDoor
namespace Go.Proofs.YtmopjhbfobmklaaGreatDoor
open Go.RowKit Go.Joins
set_option linter.unusedVariables false
set_option linter.unusedSimpArgs false
theorem lenS_step {L : List Spn} {k : Nat} {x : Spn} (hk : L[k]? = some x) : lenS (L.take (k + 1)) = lenS (L.take k) + (x.o - x.i) := by
 unfold lenS
 rw [List.take_add_one, hk, List.map_append, List.sum_append]
 simp
theorem lenS_take {L : List Spn} (h : chkS L = 0) (k : Nat) (x : Spn) (hk : L[k]? = some x) : (0 ≤ x.i ∧ x.i ≤ 10378368000 ∧ 0 ≤ x.o ∧ x.o ≤ 10378368000) ∧ 0 ≤ lenS (L.take k) ∧ lenS (L.take k) ≤ 4151347200000 := by
 obtain ⟨h1, hc, hb⟩ := chkS_ok.1 h
 refine ⟨chk_bd h x (List.mem_of_getElem? hk), ?_⟩
 obtain ⟨h2, h3⟩ := lenS_bd (L := L.take k) (fun s hs => by
  have hs' := List.mem_of_mem_take hs
  have := hb s hs'
  exact ⟨this.1, can_pos hc s hs', this.2⟩)
 refine ⟨h2, Int.le_trans h3 ?_⟩
 have : (L.take k).length ≤ 400 := Nat.le_trans (List.length_take_le k L |> fun _ => by simp; omega) h1
 have h4 : ((L.take k).length : Int) * 10378368000 ≤ 400 * 10378368000 := Int.mul_le_mul_of_nonneg_right (by omega) (by decide)
 exact Int.le_trans h4 (by decide)
end Go.Proofs.YtmopjhbfobmklaaGreatDoor
namespace Go.Proofs.YtmopjhbfobmklaaGreatDoor
open Go.RowKit Go.Joins
set_option linter.unusedVariables false
set_option linter.unusedSimpArgs false
end Go.Proofs.YtmopjhbfobmklaaGreatDoor
namespace Go.Proofs.YtmopjhbfobmklaaGreatDoor
set_option linter.unusedVariables false
set_option linter.unusedSimpArgs false
end Go.Proofs.YtmopjhbfobmklaaGreatDoor
