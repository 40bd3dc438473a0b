/-
  The contracts of awake and same. Their conditions are their hypotheses.
-/
import Derived.Test.YtnnhbnkelgmaaaaDoorC4
namespace Go.Proofs.YtnnhbnkelgmaaaaDoor
open Go.RowKit
set_option linter.unusedVariables false
set_option linter.unusedSimpArgs false
abbrev Tab (w : World) : Prop := Lib.TabIs Tryd.prog w "internal/strconv.uint64pow10" .u64 Lib.pow10Tab
theorem Tab.on {w w' : World} (h : Tab w) (hb : Below w.heap.size w w') : Tab w' := ((Lib.tabBelow_of_tabIs h).on hb).here
theorem awake_any (w : World) (ht : Tab w) :
    Calls Tryd.prog 10 #[] w fun e w' => e = .returned (.bool true) ∧ Below w.heap.size w w' := by
  have HT := Lib.hid ht
  obtain ⟨B, hB⟩ : ∃ B, B = w.heap.size := ⟨_, rfl⟩
  have HB := Lib.hid hB
  clear ht
  rw [← hB]
  go_enter Tryd.func10, Tryd.ntmps10
  go_wp2_with fail
  rw [← hB]
  clear hB
  generalize hw1 : (w.alloc _).alloc _ = w1
  have hb1 : Below B w w1 := by
    subst hw1; rw [HB.out]; exact ((Below.refl _ _).alloc (Nat.le_refl _) _).alloc (by simp) _
  have hs1 : B + 2 ≤ w1.heap.size := by subst hw1; simp [HB.out]
  have h1 : IntsAt w1 (some ⟨B, 0, none⟩) [100, 105] := row_of_cells (by subst hw1; simp [CellsAt, go_sem, HB.out])
  have h2 : IntsAt w1 (some ⟨B + 1, 0, none⟩) [100, 150] := row_of_cells (by subst hw1; simp [CellsAt, go_sem, HB.out])
  have H1 := Lib.hid h1
  have H2 := Lib.hid h2
  have HB1 := Lib.hid hb1
  clear hw1 h1 h2 hb1
  refine (near_yes _ 2 [100, 150] 125 _ H2.out (by decide) (by decide) (by decide) (by decide)).mono ?_
  rintro e w' ⟨rfl, rfl⟩
  rw [show nearG 125 (([100, 150] : List Int).getD 0 0) [100, 150] = 100 by decide]
  go_wp2_with fail
  refine (snap_yes _ 2 [100, 105] 103 12 12 _ H1.out (by decide) (by decide)).mono ?_
  rintro e w2 ⟨rfl, hb2⟩
  rw [show (snapV 103 12 12 [100, 105]) = (117, true) by decide]
  have HB2 := Lib.hid (HB1.out.trans (hb2.mono (by omega)))
  have H3 := Lib.hid (IntsAt.below H1.out hb2 (Nat.le_refl _))
  have hs2 := hb2.size
  clear hb2
  go_wp2_with fail
  refine (text_some _ 2 [100, 105] _ H3.out (by decide) (by decide) (by decide) (HT.out.on (by rw [← HB.out]; exact HB2.out))).mono ?_
  rintro e w3 ⟨rfl, hb3⟩
  rw [show txt [100, 105] = ⟨#[49, 48, 48, 32, 49, 48, 53]⟩ by kernel_rfl]
  have HB3 := Lib.hid (HB2.out.trans (hb3.mono (by omega)))
  clear hb3
  go_wp2_with fail
  go_ret
  exact ⟨rfl, HB3.out⟩
theorem same_any (A1 A2 : Option Addr) (c1 c2 : Nat) (xs ys : List Int) (w : World) (h1 : IntsAt w A1 xs) (h2 : IntsAt w A2 ys) (hl1 : xs.length ≤ 9223372036854775807) (hl2 : ys.length ≤ 9223372036854775807) (he : xs = ys) :
    Calls Tryd.prog 22 #[.slice A1 xs.length c1, .slice A2 ys.length c2] w fun e w' => e = .returned (.bool true) ∧ ∃ n, w' = w.drewN n := by
  subst he
  have H1 := Lib.hid h1
  have H2 := Lib.hid h2
  clear h1 h2 hl2
  go_enter Tryd.func22, Tryd.ntmps22
  go_wp2_with fail
  go_loopw [13] (fun i wr => ∃ k n : Nat, k ≤ xs.length ∧ i = .int .i64 k ∧ wr = w.drewN n) (fun i _ => xs.length - (intOf i).toNat)
  case atStart => exact ⟨0, 0, by omega, rfl, rfl⟩
  case round =>
    obtain ⟨k, n, hk, rfl, rfl⟩ := hrel
    by_cases hlt : k < xs.length
    · obtain ⟨b, off, rfl, hc⟩ := H1.out.get hlt
      obtain ⟨b2, off2, rfl, hc2⟩ := H2.out.get hlt
      generalize xs.getD k 0 = x at *
      go_wp2_with fail
      go_quiet (fail)
      go_wp2_with fail
      exact ⟨⟨k + 1, n + nq, by omega, by go_num, rfl⟩, by simp [intOf]; omega⟩
    · go_wp2_with fail
      go_ret
      exact ⟨rfl, n, rfl⟩
end Go.Proofs.YtnnhbnkelgmaaaaDoor
