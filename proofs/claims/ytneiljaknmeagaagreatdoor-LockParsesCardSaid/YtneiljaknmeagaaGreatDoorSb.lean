/-
  Texts as lists of bytes: their sums. Without conditions.
-/
import Derived.Test.YtneiljaknmeagaaGreatDoorSt
namespace Go.Proofs.YtneiljaknmeagaaGreatDoor
open Go.RowKit Go.Joins
set_option linter.unusedVariables false
set_option linter.unusedSimpArgs false
def sB (l : List UInt8) : ByteArray := ⟨l.toArray⟩
theorem sB_list (l : List UInt8) : (sB l).data.toList = l := rfl
theorem sB_of (s : ByteArray) : sB s.data.toList = s := ByteArray.ext (by simp [sB])
theorem sB_size (l : List UInt8) : (sB l).size = l.length := by show l.toArray.size = _; simp
theorem sB_app (a b : List UInt8) : sB a ++ sB b = sB (a ++ b) := ByteArray.ext (by simp [sB])
theorem sB_inj {a b : List UInt8} (h : sB a = sB b) : a = b := by have := congrArg (fun s : ByteArray => s.data.toList) h; exact this
theorem add_sB {a b : List UInt8} (h : a.length + b.length ≤ 1000000000) (w : World) : (Op.stringOp .add (sB a) (sB b)).run Tryz.prog w = .ok (.string (sB (a ++ b))) w := by
  rw [← sB_app]
  exact run_string_add_sum w _ _ (by rw [sB_size, sB_size]; omega)
theorem ret_int {k : IntKind} {a b : Int} (h : a = b) : Ending.returned (.int k a) = .returned (.int k b) := by rw [h]
theorem ret_bool {a b : Bool} (h : a = b) : Ending.returned (.bool a) = .returned (.bool b) := by rw [h]
def StopAt (p : Prop) : Prop := p
/-- Stops the walk at a return (else it tries to go back to a caller). -/
theorem stop_at {P : Program} {fn : Func} {R : Ending → World → Prop} {a : Act} {w : World} (h : StopAt (bodyPost P fn R .ret a w)) : bodyPost P fn R .ret a w := h
end Go.Proofs.YtneiljaknmeagaaGreatDoor
