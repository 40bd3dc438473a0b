/-
  Opening the arguments of these laws into their numbers. Without conditions.
-/
import Derived.Test.YtbebnbpdemdocaaDoorRows
import Derived.WalkKit
import Derived.ProofKit
import Derived.OpenShut
namespace Go.Proofs.YtbebnbpdemdocaaDoor
open Go.ChangeShapes Go.WideShapes Go.ChangeAt Go.RowKit
section
variable {H : Type} {enc : TypeId × Value → H} {w : World} {base : Nat} {spare : Nat → Bool} {held : Bool}
theorem cell_int {fuel t : Nat} {k : IntKind} {cs : List Value} {x : DataW H × List MemPlace} (ht : Tryd.prog.underlying t = some (.int k)) (h : DataW.trod enc Tryd.prog w base spare held fuel t cs = some x) : ∃ n, cs = [.int k n] := by
  obtain ⟨n, h1, _⟩ := DataW.trod_int ht h
  exact ⟨n, h1⟩
theorem open_six {fuel : Nat} {cs : List Value} {x : DataW H × List MemPlace} (h : DataW.trod enc Tryd.prog w base spare held fuel 22 cs = some x) :
    ∃ c0 c1 c2 c3 c4 c5 : Int, cs = [.int .i64 c0, .int .i64 c1, .int .i64 c2, .int .i64 c3, .int .i64 c4, .int .i64 c5] := by
  obtain ⟨xs, m, _, _, hl, hx, hi⟩ := DataW.trod_array Tryd.underlying22 h
  have hl : cs.length = 6 := hl.trans (by kernel_rfl)
  have hc : Tryd.prog.cellsOf 2 = 1 := by kernel_rfl
  match cs, hl with
  | [a0, a1, a2, a3, a4, a5], _ =>
    match xs, hx with
    | [x0, x1, x2, x3, x4, x5], _ =>
      have i0 := hi 0 (by decide)
      have i1 := hi 1 (by decide)
      have i2 := hi 2 (by decide)
      have i3 := hi 3 (by decide)
      have i4 := hi 4 (by decide)
      have i5 := hi 5 (by decide)
      simp only [hc] at i0 i1 i2 i3 i4 i5
      obtain ⟨c0, h0⟩ := cell_int Tryd.underlying2 i0
      obtain ⟨c1, h1⟩ := cell_int Tryd.underlying2 i1
      obtain ⟨c2, h2⟩ := cell_int Tryd.underlying2 i2
      obtain ⟨c3, h3⟩ := cell_int Tryd.underlying2 i3
      obtain ⟨c4, h4⟩ := cell_int Tryd.underlying2 i4
      obtain ⟨c5, h5⟩ := cell_int Tryd.underlying2 i5
      simp at h0 h1 h2 h3 h4 h5
      subst h0 h1 h2 h3 h4 h5
      exact ⟨c0, c1, c2, c3, c4, c5, rfl⟩
theorem open_pen {r : Reach} {b0 : Nat} {v : Value} {d : DataW H} {p : List MemPlace} (hv : Value.okWide Tryd.prog w r b0 24 v) (h : DataW.Trod enc Tryd.prog w base spare held 24 v d p) :
    ∃ c0 c1 c2 c3 c4 c5 c6 c7 c8 c9 c10 c11 : Int, v = .agg #[.int .i64 c0, .int .i64 c1, .int .i64 c2, .int .i64 c3, .int .i64 c4, .int .i64 c5, .int .i64 c6, .int .i64 c7, .int .i64 c8, .int .i64 c9, .int .i64 c10, .int .i64 c11] := by
  obtain ⟨cs, rfl, hsz⟩ := okWide_struct Tryd.underlying24 hv
  obtain ⟨l⟩ := cs
  have hsz : l.length = 12 := hsz.trans (by kernel_rfl)
  obtain ⟨fuel, hf⟩ := h
  obtain ⟨xs, n, _, _, _, hlen, hg⟩ := DataW.trod_struct Tryd.underlying24 hf
  match l, hsz with
  | [a0, a1, a2, a3, a4, a5, a6, a7, a8, a9, a10, a11], _ =>
    match xs, hlen with
    | [x0, x1, x2, x3, x4, x5, x6], _ =>
      have hc22 : Tryd.prog.cellsOf 22 = 6 := by kernel_rfl
      have hc2 : Tryd.prog.cellsOf 2 = 1 := by kernel_rfl
      have i0 := hg 0 _ rfl
      have i1 := hg 1 _ rfl
      have i2 := hg 2 _ rfl
      have i3 := hg 3 _ rfl
      have i4 := hg 4 _ rfl
      have i5 := hg 5 _ rfl
      have i6 := hg 6 _ rfl
      obtain ⟨c0, c1, c2, c3, c4, c5, e0⟩ := open_six i0
      obtain ⟨c6, e6⟩ := cell_int Tryd.underlying2 i1
      obtain ⟨c7, e7⟩ := cell_int Tryd.underlying2 i2
      obtain ⟨c8, e8⟩ := cell_int Tryd.underlying2 i3
      obtain ⟨c9, e9⟩ := cell_int Tryd.underlying2 i4
      obtain ⟨c10, e10⟩ := cell_int Tryd.underlying2 i5
      obtain ⟨c11, e11⟩ := cell_int Tryd.underlying2 i6
      simp [hc22, hc2, Value.cells] at e0 e6 e7 e8 e9 e10 e11
      obtain ⟨rfl, rfl, rfl, rfl, rfl, rfl⟩ := e0
      subst e6 e7 e8 e9 e10 e11
      exact ⟨c0, c1, c2, c3, c4, c5, c6, c7, c8, c9, c10, c11, rfl⟩
end
end Go.Proofs.YtbebnbpdemdocaaDoor
