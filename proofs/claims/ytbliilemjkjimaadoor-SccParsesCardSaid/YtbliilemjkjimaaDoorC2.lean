/-
  Bytes as a text; the contract of SameStream. Their conditions are their hypotheses.
-/
import Derived.Test.YtbliilemjkjimaaDoorC1
namespace Go.Proofs.YtbliilemjkjimaaDoor
open Go.RowKit
set_option linter.unusedVariables false
set_option linter.unusedSimpArgs false
theorem u22 : Tryd.prog.underlying 22 = some (.slice 5) := by kernel_rfl
theorem u5 : Tryd.prog.underlying 5 = some (.int .u8) := by kernel_rfl
theorem u9 : Tryd.prog.underlying 9 = some .string := by kernel_rfl
theorem conv_bytes {w : World} {A : Option Addr} {bs : List UInt8} (h : BytesAt w A bs) (n c : Nat) (hn : n = bs.length) :
    (convert 22 9 (.slice A n c)).run Tryd.prog w = .ok (.string ⟨bs.toArray⟩) w := by
  subst hn
  cases A with
  | none =>
    cases bs with
    | nil => exact run_convert_bytes_nil w _ _ u22 u5 _ _ _ u9
    | cons b r => obtain ⟨_, _, e, _⟩ := h.get (k := 0) (by simp); cases e
  | some a =>
    refine run_convert_bytes_back w _ _ _ a c bs u22 u5 u9 fun j hj => ?_
    · obtain ⟨b, o, e, hc⟩ := h.get hj
      cases e
      rw [show ((⟨b, o, none⟩ : Addr).add j) = ⟨b, o + j, none⟩ from by cases j <;> simp [Addr.add]]
      exact hc
theorem same_any (f g : Int) (A C : Option Addr) (n m c d : Nat) (xs bs : List UInt8) (w : World) (ha : BytesAt w A xs) (hb : BytesAt w C bs) (hn : n = xs.length) (hm : m = bs.length) :
    Calls Tryd.prog 12 #[strm f A n c, strm g C m d] w fun e w' => e = .returned (.bool ((f == g) && (xs == bs))) ∧ Below w.heap.size w w' := by
  unfold strm
  have fb : ∀ o p, Below w.heap.size w ((w.alloc o).alloc p) := fun o p => (below_one w o).alloc (by simp) p
  have c1 := fun o p => conv_bytes (ha.ext (fb o p)) n c hn
  have c2 := fun o p => conv_bytes (hb.ext (fb o p)) m d hm
  clear ha hb hn hm
  cases hx : (f == g)
  · go_enter Tryd.func12, Tryd.ntmps12
    go_wp2_with fail
    go_ret
    exact ⟨rfl, fb _ _⟩
  · go_enter Tryd.func12, Tryd.ntmps12
    go_wp2_with fail
    go_ret
    exact ⟨rfl, fb _ _⟩
end Go.Proofs.YtbliilemjkjimaaDoor
