/-
  The contracts of Text of a table, in the program and in the reference. Their conditions are their hypotheses.
-/
import Derived.Test.YtbebnbpdemdocaaDoorTp
import Derived.Test.YtbebnbpdemdocaaDoorFn
import Derived.Test.YtbebnbpdemdocaaDoorSb
import Derived.Test.YtbebnbpdemdocaaDoorShelf
import Derived.Laws.BytesArg
import Derived.Lib.AppendIntMem
import Derived.Deep.RegionHeld3
namespace Go.Proofs.YtbebnbpdemdocaaDoor
open Go.RowKit Go.Joins
set_option linter.unusedVariables false
set_option linter.unusedSimpArgs false
abbrev Tab (w : World) : Prop := Lib.TabIs Tryd.prog w "internal/strconv.uint64pow10" .u64 Lib.pow10Tab
theorem Tab.on {w w' : World} (h : Tab w) (hb : Below w.heap.size w w') : Tab w' := ((Lib.tabBelow_of_tabIs h).on hb).here
theorem fmt_any (n : Int) (w : World) (h0 : -9223372036854775808 ≤ n) (h1 : n ≤ 9223372036854775807) (ht : Tab w) :
    Calls Tryd.prog 17 #[.int .i64 n, .int .i64 10] w fun e w' => e = .returned (.string (sB (Lib.itoa n))) ∧ Below w.heap.size w w' :=
  (Tryd.strconv_FormatInt_10 n h0 h1 w ht).mono fun e w' ⟨he, kk, os, hw'⟩ => ⟨he, by rw [hw']; exact Lib.below_grow _ w (Nat.le_refl _) kk os⟩
theorem itoa_len {n : Int} (h0 : 0 ≤ n) (h1 : n ≤ 1000000) : (Lib.itoa n).length ≤ 21 := Lib.itoa_length_le n (by omega) (by omega)
theorem txtT_len : ∀ {cs : List Int}, (∀ n ∈ cs, 0 ≤ n ∧ n ≤ 1000000) → (txtT cs).length ≤ 22 * cs.length
  | [], _ => by simp [txtT]
  | n :: r, h => by
    have h1 := h n (by simp)
    have h2 := itoa_len h1.1 h1.2
    have h3 := txtT_len (cs := r) (fun m hm => h m (by simp [hm]))
    have e : txtT (n :: r) = 32 :: (Lib.itoa n ++ txtT r) := by simp [txtT]
    rw [e]
    simp only [List.length_cons, List.length_append]
    omega
theorem txtT_snoc {cs : List Int} {k : Nat} {n : Int} (h : cs[k]? = some n) : txtT (cs.take (k + 1)) = txtT (cs.take k) ++ 32 :: Lib.itoa n := by
  rw [List.take_add_one, h]
  simp [txtT]
def printT (cs : List Int) : List UInt8 × Int := if pchk cs = 0 then (txtP cs, 0) else ([], pchk cs)
def prT (r : List UInt8 × Int) : Value := .tuple #[.string (sB r.1), .int .i64 r.2]
end Go.Proofs.YtbebnbpdemdocaaDoor
