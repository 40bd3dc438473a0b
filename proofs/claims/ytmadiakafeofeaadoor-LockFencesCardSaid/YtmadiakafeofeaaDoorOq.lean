/-
  Opening an act that came in. Without conditions.
-/
import Derived.Test.YtmadiakafeofeaaDoorOp
namespace Go.Proofs.YtmadiakafeofeaaDoor
open Go.ChangeShapes Go.WideShapes Go.ChangeAt Go.RowKit Go.Joins
set_option linter.unusedVariables false
section
variable {H : Type} {enc : TypeId × Value → H} {w : World} {base : Nat} {spare : Nat → Bool} {held : Bool}
set_option maxRecDepth 100000 in
theorem act_of {fuel : Nat} {cs : List Value} {x : DataW H × List MemPlace} (hsz : cs.length = 6) (hf : DataW.trod enc Tryd.prog w base spare held fuel 31 cs = some x) :
    ∃ (k : Int) (r : Bool) (l u f : Int) (s : ByteArray), cs = [.int .u8 k, .bool r, .int .i64 l, .int .i64 u, .int .i64 f, .string s] ∧ s.size ≤ 9223372036854775807 := by
  obtain ⟨xs, n, _, _, _, hlen, hg⟩ := DataW.trod_struct Tryd.underlying31 hf
  match cs, hsz with
  | [a0, a1, a2, a3, a4, a5], _ =>
    match xs, hlen with
    | [x0, x1, x2, x3, x4, x5], _ =>
      have c0 : Tryd.prog.cellsOf 5 = 1 := by kernel_rfl
      have c1 : Tryd.prog.cellsOf 4 = 1 := by kernel_rfl
      have c2 : Tryd.prog.cellsOf 2 = 1 := by kernel_rfl
      have c3 : Tryd.prog.cellsOf 9 = 1 := by kernel_rfl
      obtain ⟨k, e0, _⟩ := DataW.trod_int Tryd.underlying5 (hg 0 _ rfl)
      obtain ⟨r, e1, _⟩ := DataW.trod_bool Tryd.underlying4 (hg 1 _ rfl)
      obtain ⟨l, e2, _⟩ := DataW.trod_int Tryd.underlying2 (hg 2 _ rfl)
      obtain ⟨u, e3, _⟩ := DataW.trod_int Tryd.underlying2 (hg 3 _ rfl)
      obtain ⟨f, e4, _⟩ := DataW.trod_int Tryd.underlying2 (hg 4 _ rfl)
      obtain ⟨s, e5, _, hs⟩ := DataW.trod_string Tryd.underlying9 (hg 5 _ rfl)
      simp [c0, c1, c2, c3] at e0 e1 e2 e3 e4 e5
      subst e0 e1 e2 e3 e4 e5
      exact ⟨k, r, l, u, f, s, rfl, len_of hs⟩
set_option maxRecDepth 100000 in
theorem open_act {r0 : Reach} {b0 : Nat} {v : Value} {d : DataW H} {p : List MemPlace} (hv : Value.okWide Tryd.prog w r0 b0 31 v) (h : DataW.Trod enc Tryd.prog w base spare held 31 v d p) :
    ∃ (k : Int) (r : Bool) (l u f : Int) (s : ByteArray), v = .agg #[.int .u8 k, .bool r, .int .i64 l, .int .i64 u, .int .i64 f, .string s] ∧ s.size ≤ 9223372036854775807 := by
  obtain ⟨cs, rfl, hsz⟩ := okWide_struct Tryd.underlying31 hv
  obtain ⟨lst⟩ := cs
  have hsz : lst.length = 6 := hsz.trans (by kernel_rfl)
  obtain ⟨fuel, hf⟩ := h
  obtain ⟨k, r, l, u, f, s, e, hs⟩ := act_of hsz (by simpa [Value.cells] using hf)
  subst e
  exact ⟨k, r, l, u, f, s, rfl, hs⟩
end
end Go.Proofs.YtmadiakafeofeaaDoor
