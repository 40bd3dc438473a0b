/-
  The contract of awake: the first example of the chapter holds. Its conditions are its hypotheses.
-/
import Derived.Test.YtbliilemjkjimaaDoorCl
import Derived.Lib.SlBytesConst
namespace Go.Proofs.YtbliilemjkjimaaDoor
open Go.RowKit Go.Joins
set_option linter.unusedVariables false
set_option linter.unusedSimpArgs false
def awkBs : List UInt8 := [148, 44, 148, 44, 128, 128, 200, 233]
def awkTx : List UInt8 := [83, 67, 67, 32, 49, 46, 48, 10, 48, 48, 58, 48, 48, 58, 48, 49, 58, 48, 48, 32, 57, 52, 50, 99, 32, 57, 52, 50, 99, 10, 48, 48, 58, 48, 48, 58, 48, 49, 58, 48, 51, 32, 99, 56, 101, 57, 10]
theorem awk_print : printV 30 awkBs false = (awkTx, 0) := by kernel_rfl
theorem awk_parse : parseV awkTx = .ok (30, [(148, 44), (148, 44), (128, 128), (200, 233)]) := by kernel_rfl
theorem awk_parse_any (w : World) (hm : Mx w) :
    Calls Tryd.prog 19 #[.string ⟨awkTx.toArray⟩] w fun e w' => (∃ A c, e = .returned (.tuple #[.agg #[.int .i64 30, .slice A 8 c], .slice none 0 0])) ∧ Below w.heap.size w w' := by
  have hsz : (⟨awkTx.toArray⟩ : ByteArray).size = 47 := by decide
  refine (parse31_any ⟨awkTx.toArray⟩ w (by rw [hsz]; decide) hm).mono ?_
  rintro e w' ⟨h1, h2⟩
  rw [show ((⟨awkTx.toArray⟩ : ByteArray).data.toList) = awkTx from rfl, awk_parse] at h1
  obtain ⟨A, c, rfl, _⟩ := h1
  exact ⟨⟨A, c, rfl⟩, h2⟩
theorem awake_any (w : World) (hm : Mx w) :
    Calls Tryd.prog 10 #[] w fun e w' => e = .returned (.bool true) ∧ Below w.heap.size w w' := by
  have HM := Lib.hid hm
  clear hm
  have cv := Lib.run_convert_bytes_const (P := Tryd.prog) w 22 5 #[.int .u8 148, .int .u8 44, .int .u8 148, .int .u8 44, .int .u8 128, .int .u8 128, .int .u8 200, .int .u8 233] 8 8 u22 u5
  simp only [List.size_toArray, List.length_cons, List.length_nil, Nat.reduceAdd] at cv
  go_enter Tryd.func10, Tryd.ntmps10
  go_wp2_with fail
  obtain ⟨B, hB⟩ : ∃ B, B = w.heap.size := ⟨_, rfl⟩
  rw [← hB]
  clear cv
  generalize hw1 : World.alloc _ _ = w1
  have HX := Lib.hid (show BytesAt w1 (some ⟨B, 0, none⟩) awkBs by subst hw1; exact fun k u hk => ⟨B, 0, rfl, by rw [cell_alloc_mark_at _ _ _ _ _ _ hB, Nat.zero_add]; simpa [awkBs, byteV] using hk⟩)
  have FB := Lib.hid (show Below B w w1 by subst hw1; subst hB; exact below_one _ _)
  replace HM := Lib.hid (show Mx w1 from HM.out.on (hB ▸ FB.out))
  have HB := Lib.hid hB
  clear hw1 hB
  refine (print_any 30 (some ⟨B, 0, none⟩) 8 8 awkBs false _ HX.out rfl (by omega) (by unfold maxLen; decide)).mono ?_
  rintro e w2 ⟨rfl, hb⟩
  rw [awk_print]
  have hBw : B < w1.heap.size := by
    obtain ⟨b, o, e, h⟩ := HX.out.get (k := 0) (by decide)
    cases e
    exact World.block_lt_of_cell? w1 _ h
  have HM2 := Lib.hid (HM.out.on hb)
  have FB2 := Lib.hid (show Below B w w2 from FB.out.trans (hb.mono (Nat.le_of_lt hBw)))
  have z2 := Nat.le_trans (Nat.le_of_lt hBw) hb.size
  clear hb
  unfold prB
  have HP := Lib.hid (awk_parse_any w2 HM2.out)
  unfold awkTx at *
  go_wp2_with fail
  refine HP.out.mono ?_
  rintro e w3 ⟨⟨A, c, rfl⟩, hb⟩
  have FB3 := Lib.hid (FB2.out.trans (hb.mono z2))
  have z3 := Nat.le_trans z2 hb.size
  clear hb HP
  go_wp2_with fail
  go_ret
  exact ⟨rfl, by rw [← HB.out]; exact FB3.out.alloc z3 _⟩
end Go.Proofs.YtbliilemjkjimaaDoor
