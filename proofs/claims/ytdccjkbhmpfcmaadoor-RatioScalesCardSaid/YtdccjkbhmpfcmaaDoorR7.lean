/-
  The contracts of Text, Decimal, in the program and in the reference. Their conditions are their hypotheses.
-/
import Derived.Test.YtdccjkbhmpfcmaaDoorR6
import Derived.Test.YtdccjkbhmpfcmaaDoorShelf
import Derived.Laws.BytesArg
import Derived.Lib.AppendIntMem
import Derived.Deep.RegionHeld3
namespace Go.Proofs.YtdccjkbhmpfcmaaDoor
open Go.RowKit
set_option linter.unusedVariables false
set_option linter.unusedSimpArgs false
abbrev Tab (w : World) : Prop := Lib.TabIs Tryd.prog w "internal/strconv.uint64pow10" .u64 Lib.pow10Tab
theorem Tab.on {w w' : World} (h : Tab w) (hb : Below w.heap.size w w') : Tab w' := ((Lib.tabBelow_of_tabIs h).on hb).here
def itoaB (n : Int) : ByteArray := ⟨(Lib.itoa n).toArray⟩
theorem len_data (s : ByteArray) : s.data.toList.length = s.size := by simp
theorem itoaB_size {n : Int} (h0 : -9223372036854775808 ≤ n) (h1 : n ≤ 9223372036854775807) : (itoaB n).size ≤ 21 := by
  have := Lib.itoa_length_le n (by omega) (by omega)
  rw [← len_data]
  exact this
def textB (n d : Int) : ByteArray := ⟨(textL n d).toArray⟩
theorem textB_valid {n d : Int} (h : validV n d = true) : textB n d = itoaB n ++ ⟨#[47]⟩ ++ itoaB d := by
  rw [textB, textL_valid h]
  exact ByteArray.ext (by simp [itoaB])
theorem textB_bad {n d : Int} (h : validV n d = false) : textB n d = ⟨#[]⟩ := by rw [textB, textL_bad h]
theorem textB_size (n d : Int) : (textB n d).size ≤ 43 := by
  cases h : validV n d with
  | false => rw [textB_bad h]; decide
  | true =>
    have b := valid_bd h
    have e : (textB n d).size = (itoaB n).size + 1 + (itoaB d).size := by rw [textB_valid h]; simp [ByteArray.size_append]; rfl
    have s1 := itoaB_size (n := n) (by omega) (by omega)
    have s2 := itoaB_size (n := d) (by omega) (by omega)
    omega
theorem fmt_any (n : Int) (w : World) (h0 : -9223372036854775808 ≤ n) (h1 : n ≤ 9223372036854775807) (ht : Tab w) :
    Calls Tryd.prog 47 #[.int .i64 n, .int .i64 10] w fun e w' => e = .returned (.string (itoaB n)) ∧ Below w.heap.size w w' :=
  (Tryd.strconv_FormatInt_10 n h0 h1 w ht).mono fun e w' ⟨he, kk, os, hw'⟩ => ⟨he, by rw [hw']; exact Lib.below_grow _ w (Nat.le_refl _) kk os⟩
theorem text_any (n d : Int) (w : World) (hn : I64 n) (hd : I64 d) (ht : Tab w) :
    Calls Tryd.prog 22 #[rat n d] w fun e w' => e = .returned (.string (textB n d)) ∧ Below w.heap.size w w' := by
  have HT := Lib.hid ht
  have HN := Lib.hid hn
  have HD := Lib.hid hd
  clear ht hn hd
  obtain ⟨T, hT⟩ : ∃ T, T = textB n d := ⟨_, rfl⟩
  have HTX := Lib.hid hT
  rw [← hT]
  obtain ⟨B, hB⟩ : ∃ B, B = w.heap.size := ⟨_, rfl⟩
  have HB := Lib.hid hB
  rw [← hB]
  clear hT
  go_enter Tryd.func22, Tryd.ntmps22
  go_wp2_with fail
  rw [← hB]
  generalize hw1 : World.alloc _ _ = w1
  have f0 : Held w1 B [.int .i64 n, .int .i64 d] := by subst hw1; exact Held.new hB
  have fb : Below B w w1 := by subst hw1; rw [hB]; exact below_one _ _
  have fs : B + 1 ≤ w1.heap.size := by subst hw1; simp [hB]
  clear hw1 hB
  refine (valid_any n d _ HN.out HD.out).mono ?_
  rintro e w2 ⟨rfl, hb⟩
  have FB := Lib.hid (fb.trans (hb.mono (by omega)))
  have fs2 := Nat.le_trans fs hb.size
  have F0 := Lib.hid (f0.ext hb)
  clear hb fb f0 fs
  cases hv : validV n d with
  | false =>
    have HT2 := Lib.hid (HTX.out.trans (textB_bad hv))
    clear hv
    go_wp2_with fail
    go_ret
    exact ⟨by rw [HT2.out]; rfl, FB.out⟩
  | true =>
    have HT2 := Lib.hid (HTX.out.trans (textB_valid hv))
    have b := valid_bd hv
    have s1 := itoaB_size (n := n) (by omega) (by omega)
    have s2 := itoaB_size (n := d) (by omega) (by omega)
    obtain ⟨b1, b2, b3, b4, _⟩ := b
    clear hv
    obtain ⟨c0, c1, _, _⟩ := F0.out.two
    have fbb := FB.out
    have y1 : ∀ w', (Op.stringOp .add (itoaB n) ⟨#[47]⟩).run Tryd.prog w' = .ok (.string (itoaB n ++ ⟨#[47]⟩)) w' := fun w' => run_string_add_sum w' _ _ (by have : (⟨#[47]⟩ : ByteArray).size = 1 := rfl; omega)
    have y2 : ∀ w', (Op.stringOp .add (itoaB n ++ ⟨#[47]⟩) (itoaB d)).run Tryd.prog w' = .ok (.string (itoaB n ++ ⟨#[47]⟩ ++ itoaB d)) w' := fun w' => run_string_add_sum w' _ _ (by rw [ByteArray.size_append]; have : (⟨#[47]⟩ : ByteArray).size = 1 := rfl; omega)
    go_wp2_with fail
    go_region_held3 (fun w' => w'.cell? ⟨B, 0, none⟩ = some (.int .i64 n) ∧ w'.cell? ⟨B, 1, none⟩ = some (.int .i64 d) ∧ Below B w w' ∧ B + 1 ≤ w'.heap.size)
      ((refine ⟨?_, ?_, ?_, ?_⟩ <;> first
        | assumption
        | exact Below.drew ‹_›
        | exact (hb.cell (Nat.lt_of_lt_of_le (Nat.lt_succ_self _) hks)).trans hk0
        | exact (hb.cell (Nat.lt_of_lt_of_le (Nat.lt_succ_self _) hks)).trans hk1
        | exact hkb.trans (hb.mono (Nat.le_of_succ_le hks))
        | exact Nat.le_trans hks hb.size))
      (first
        | (go_at_call_of 47 (Value.int .i64 n); obtain ⟨hk0, hk1, hkb, hks⟩ := ‹_ ∧ _ ∧ Below B w _ ∧ _›; refine (fmt_any n _ (by omega) (by omega) (HT.out.on (by rw [← HB.out]; exact hkb))).mono ?_; rintro e w' ⟨rfl, hb⟩)
        | (go_at_call_of 47 (Value.int .i64 d); obtain ⟨hk0, hk1, hkb, hks⟩ := ‹_ ∧ _ ∧ Below B w _ ∧ _›; refine (fmt_any d _ (by omega) (by omega) (HT.out.on (by rw [← HB.out]; exact hkb))).mono ?_; rintro e w' ⟨rfl, hb⟩))
    all_goals
      obtain ⟨_, _, hkb, _⟩ := ‹_ ∧ _ ∧ Below B w _ ∧ _›
      have HKB := Lib.hid hkb
      go_wp2_with fail
      go_ret
      exact ⟨by rw [HT2.out]; rfl, HKB.out⟩
end Go.Proofs.YtdccjkbhmpfcmaaDoor
