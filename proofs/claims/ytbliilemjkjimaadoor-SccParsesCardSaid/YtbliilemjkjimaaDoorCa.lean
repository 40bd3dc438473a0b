/-
  The contracts of the two digits of a number and of Text of layer 3, in the program and in the reference. Their conditions are their hypotheses.
-/
import Derived.Test.YtbliilemjkjimaaDoorC7
namespace Go.Proofs.YtbliilemjkjimaaDoor
open Go.RowKit Go.Joins
set_option linter.unusedVariables false
set_option linter.unusedSimpArgs false
theorem own_base {w : World} {base : Nat} {e : TypeId} {size : Nat} {v : Value} {n : Nat} {xs : List Value} (h : w.ownsRow base e size v n xs) : ∀ k, v.ownBlock = some k → base ≤ k := by
  intro k hk
  rcases h.2 with ⟨rfl, _⟩ | ⟨g, cap, cur, rfl, hb, _⟩
  · simp [Value.ownBlock] at hk
  · simp [Value.ownBlock] at hk; omega
theorem byteV_dig {n : Int} (h0 : 0 ≤ n) (h1 : n < 10) : byteV (UInt8.ofNat (48 + n.toNat)) = .int .u8 (48 + n) := by
  unfold byteV
  rw [dig_byte (by omega)]
  congr 1
  omega
theorem two2_vals {n : Int} (h0 : 0 ≤ n) (h1 : n < 100) : (two2 n).map byteV = [.int .u8 (48 + n / 10), .int .u8 (48 + n % 10)] := by
  simp only [two2, List.map_cons, List.map_nil]
  rw [byteV_dig (by omega) (by omega), byteV_dig (by omega) (by omega)]
theorem digits_any (v : Value) (k : Nat) (xs : List Value) (n : Int) (base : Nat) (w : World) (hown : w.ownsRow base 5 1 v k xs) (hbase : base ≤ w.heap.size) (h0 : 0 ≤ n) (h1 : n < 100) (hk : k ≤ 400) :
    Calls Tryd.prog 55 #[v, .int .i64 n] w fun e w' => ∃ v', e = .returned v' ∧ w'.ownsRow base 5 1 v' (k + 2) (xs ++ (two2 n).map byteV) ∧ Below base w w' := by
  obtain ⟨i0, hi, hz0, hz1, hz2⟩ := info_parts i5
  have HI0 := Lib.hid (And.intro hi (And.intro hz0 (And.intro hz1 hz2)))
  have HO := Lib.hid hown
  have HT := Lib.hid (two2_vals h0 h1)
  have n1 : 0 ≤ n / 10 ∧ n / 10 < 10 := by omega
  have n2 : 0 ≤ n % 10 ∧ n % 10 < 10 := by omega
  clear hi hz0 hz1 hz2 hown
  go_enter Tryd.func55, Tryd.ntmps55
  go_wp2_with (at_builtin; go_loud (refine wpList_append_own _ rfl _ _ 22 rfl base 5 i0 (.int .u8 0) 1 1 Tryd.underlying22 HI0.out.1 HI0.out.2.1 HI0.out.2.2.1 HI0.out.2.2.2 rfl (by decide) v k xs rfl (HO.out.alloc _) ⟨w.heap.size, 0, none⟩ 2 2 [.int .u8 (48 + n / 10), .int .u8 (48 + n % 10)] rfl rfl ?c2 ?c3 ?c4 ?c5 ?c6 ?_))
  case c4 => simp only [maxLen]; omega
  case c5 => omega
  case c6 => simp; omega
  case c2 => exact CellsAt.all (by simp [CellsAt, go_sem])
  case c3 =>
    intro u hu
    simp at hu
    rcases hu with rfl | rfl <;> rfl
  intro v' w' hown' hgr _
  have HW := Lib.hid hown'
  have HG := Lib.hid (show Below base w w' from ((Below.refl _ _).alloc hbase _).grown hgr (by simp; omega) (own_base HO.out))
  clear hown' hgr
  go_wp2_with fail
  go_ret
  exact ⟨v', rfl, by rw [HT.out]; exact HW.out, HG.out⟩
def twoB (n : Int) : ByteArray := ⟨(two2 n).toArray⟩
theorem two_any (n : Int) (w : World) (h0 : 0 ≤ n) (h1 : n < 100) :
    Calls Tryd.prog 62 #[.int .i64 n] w fun e w' => e = .returned (.string (twoB n)) ∧ Below w.heap.size w w' := by
  have n1 : 0 ≤ n / 10 ∧ n / 10 < 10 := by omega
  have n2 : 0 ≤ n % 10 ∧ n % 10 < 10 := by omega
  have cv : (convert 22 9 (.slice (some ⟨w.heap.size, 0, none⟩) 2 2)).run Tryd.prog (w.alloc (.cells #[.int .u8 (48 + n / 10), .int .u8 (48 + n % 10)] 5)) = .ok (.string (twoB n)) (w.alloc (.cells #[.int .u8 (48 + n / 10), .int .u8 (48 + n % 10)] 5)) := by
    refine conv_bytes (bs := two2 n) ?_ 2 2 rfl
    show RowAt _ _ _
    rw [two2_vals h0 h1]
    exact row_of_cells (by simp [CellsAt, go_sem])
  go_enter Tryd.func62, Tryd.ntmps62
  go_wp2_with fail
  go_ret
  exact ⟨rfl, below_one _ _⟩
end Go.Proofs.YtbliilemjkjimaaDoor
