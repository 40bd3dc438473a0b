/-
  The contracts of hex and value of the reference of layer 31. Their conditions are their hypotheses.
-/
import Derived.Test.YtbliilemjkjimaaDoorCi
import Derived.Test.YtbliilemjkjimaaDoorSv
import Derived.RegionTactic
import Derived.BigRegion
namespace Go.Proofs.YtbliilemjkjimaaDoor
open Go.RowKit Go.Joins
set_option linter.unusedVariables false
set_option linter.unusedSimpArgs false
theorem ret_int {k : IntKind} {a b : Int} (h : a = b) : Ending.returned (.int k a) = .returned (.int k b) := by rw [h]
def sB (l : List UInt8) : ByteArray := ⟨l.toArray⟩
theorem sB_list (l : List UInt8) : (sB l).data.toList = l := rfl
theorem sB_size (l : List UInt8) : (sB l).size = l.length := by show l.toArray.size = _; simp
theorem sB_app (a b : List UInt8) : sB a ++ sB b = sB (a ++ b) := ByteArray.ext (by simp [sB])
theorem add_sB {a b : List UInt8} (h : a.length + b.length ≤ 1000000000) (w : World) : (Op.stringOp .add (sB a) (sB b)).run Tryd.prog w = .ok (.string (sB (a ++ b))) w := by
  rw [← sB_app]
  exact run_string_add_sum w _ _ (by rw [sB_size, sB_size]; omega)
theorem idx_hex {k : IntKind} {x : Int} {j : Nat} (hx1 : x = j) (hj : j < 16) (w : World) : (Instr.index 9 (.string ⟨#[48, 49, 50, 51, 52, 53, 54, 55, 56, 57, 97, 98, 99, 100, 101, 102]⟩) (.int k x)).run Tryd.prog w = .ok (.int .u8 (hx j).toNat) w := by
  have hs : j < (⟨#[48, 49, 50, 51, 52, 53, 54, 55, 56, 57, 97, 98, 99, 100, 101, 102]⟩ : ByteArray).size := hj
  rw [← hx_idx j hj (h' := hs)]
  subst hx1
  generalize (⟨#[48, 49, 50, 51, 52, 53, 54, 55, 56, 57, 97, 98, 99, 100, 101, 102]⟩ : ByteArray) = s at *
  simp [go_sem, hs]
theorem hexr_any (b : UInt8) (w : World) :
    Calls Tryd.prog 37 #[.int .u8 b.toNat] w fun e w' => e = .returned (.string (sB (hex2 b))) ∧ Below w.heap.size w w' := by
  have hb : b.toNat < 256 := b.toNat_lt
  have i1 := fun w' => idx_hex (k := .u8) (x := (b.toNat : Int) / 16) (j := b.toNat / 16) (by omega) (by omega) w'
  have i2 := fun w' => idx_hex (k := .u8) (x := (b.toNat : Int) % 16) (j := b.toNat % 16) (by omega) (by omega) w'
  have cv : (convert 22 9 (.slice (some ⟨w.heap.size, 0, none⟩) 2 2)).run Tryd.prog (w.alloc (.cells #[.int .u8 (hx (b.toNat / 16)).toNat, .int .u8 (hx (b.toNat % 16)).toNat] 5)).drew = .ok (.string (sB (hex2 b))) (w.alloc (.cells #[.int .u8 (hx (b.toNat / 16)).toNat, .int .u8 (hx (b.toNat % 16)).toNat] 5)).drew := by
    refine conv_bytes (bs := hex2 b) ?_ 2 2 rfl
    show RowAt _ _ _
    exact row_of_cells (by simp [CellsAt, go_sem, hex2, byteV])
  go_enter Tryd.func37, Tryd.ntmps37
  go_wp2_with fail
  go_region
  all_goals
    go_wp2_with fail
    go_ret
    exact ⟨rfl, (below_one _ _).drew⟩
def valV (c : UInt8) : Int := match hv c with | some v => v | none => -1
theorem hx_same : (List.range 256).all (fun n => (List.range 16).all fun j => decide (hx j = UInt8.ofNat n → valV (UInt8.ofNat n) = (j : Int))) = true := by kernel_rfl
theorem hx_none : (List.range 256).all (fun n => decide ((List.range 16).all (fun j => decide (hx j ≠ UInt8.ofNat n)) = true → valV (UInt8.ofNat n) = -1)) = true := by kernel_rfl
theorem val_hit {c : UInt8} {j : Nat} (hj : j < 16) (h : hx j = c) : valV c = j := by
  have h1 := List.all_eq_true.1 hx_same c.toNat (List.mem_range.2 c.toNat_lt)
  have h2 := List.all_eq_true.1 h1 j (List.mem_range.2 hj)
  rw [UInt8.ofNat_toNat] at h2
  exact of_decide_eq_true h2 h
theorem val_miss {c : UInt8} (h : ∀ j, j < 16 → hx j ≠ c) : valV c = -1 := by
  have h1 := List.all_eq_true.1 hx_none c.toNat (List.mem_range.2 c.toNat_lt)
  rw [UInt8.ofNat_toNat] at h1
  exact of_decide_eq_true h1 (List.all_eq_true.2 fun j hj => decide_eq_true (h j (List.mem_range.1 hj)))
theorem value_any (c : UInt8) (w : World) :
    Calls Tryd.prog 67 #[.int .u8 c.toNat] w fun e w' => e = .returned (.int .i64 (valV c)) ∧ w = w' := by
  have hc : c.toNat < 256 := c.toNat_lt
  have HC := Lib.hid (show valV c = valV c from rfl)
  go_enter Tryd.func67, Tryd.ntmps67
  go_wp2_with fail
  go_loop [4] (fun i => ∃ k : Nat, k ≤ 16 ∧ i = .int .i64 k ∧ Hid (∀ j, j < k → hx j ≠ c)) (fun i => 16 - (intOf i).toNat)
  case atStart => exact ⟨0, by omega, rfl, Lib.hid (fun j h => by omega)⟩
  case round =>
    obtain ⟨k, hk, rfl, HK⟩ := hrel
    by_cases hlt : k < 16
    · have hlt2 : (k : Int) < 16 := by omega
      have i1 := fun w' => idx_hex (k := .i64) (x := (k : Int)) (j := k) rfl hlt w'
      by_cases he : hx k = c
      · have HV := Lib.hid (val_hit hlt he)
        have t1 : ((((hx k).toNat : Nat) : Int) == ((c.toNat : Nat) : Int)) = true := by rw [he]; simp
        clear hlt he
        go_wp2_with fail
        go_ret
        exact ⟨ret_int (by rw [HV.out]), rfl⟩
      · have HN := Lib.hid he
        have t1 : ((((hx k).toNat : Nat) : Int) == ((c.toNat : Nat) : Int)) = false := by
          rw [beq_eq_false_iff_ne]
          intro e
          exact he (UInt8.toNat_inj.1 (by omega))
        clear he
        go_wp2_with fail
        go_round
        case rel =>
          refine ⟨k + 1, by omega, by go_num, Lib.hid fun j hj => ?_⟩
          by_cases hjk : j = k
          · rw [hjk]; exact HN.out
          · exact HK.out j (by omega)
        case measure => simp [intOf]; omega
    · obtain rfl : k = 16 := by omega
      have HV := Lib.hid (val_miss HK.out)
      go_wp2_with fail
      go_ret
      exact ⟨ret_int (by rw [HV.out]), rfl⟩
end Go.Proofs.YtbliilemjkjimaaDoor
