/-
  The contracts of Inside, in the program and in the reference. Their conditions are their hypotheses.
-/
import Derived.Test.YtnnhbnkelgmaaaaDoorC5
namespace Go.Proofs.YtnnhbnkelgmaaaaDoor
open Go.RowKit
set_option linter.unusedVariables false
set_option linter.unusedSimpArgs false
def insR (i o : Int) (xs : List Int) : List Int := if chkS xs = 0 then insideV i o xs else []
def Gives (w : World) (L : List Int) (e : Ending) (w' : World) : Prop := ∃ A c, e = .returned (.slice A L.length c) ∧ IntsAt w' A L ∧ L.length ≤ c ∧ c ≤ maxLen ∧ Below w.heap.size w w'
theorem ins_take_yes {i o : Int} {xs : List Int} {k : Nat} (hk : k < xs.length) (h1 : i < xs.getD k 0) (h2 : xs.getD k 0 < o) : insideV i o (xs.take (k + 1)) = insideV i o (xs.take k) ++ [xs.getD k 0] := by
  have e : xs.getD k 0 = xs[k] := by simp [hk]
  rw [e] at h1 h2 ⊢
  unfold insideV
  rw [List.take_succ_eq_append_getElem hk, List.filter_append]
  simp [h1, h2]
theorem ins_take_no {i o : Int} {xs : List Int} {k : Nat} (hk : k < xs.length) (h : ¬ (i < xs.getD k 0 ∧ xs.getD k 0 < o)) : insideV i o (xs.take (k + 1)) = insideV i o (xs.take k) := by
  have e : xs.getD k 0 = xs[k] := by simp [hk]
  rw [e] at h
  unfold insideV
  rw [List.take_succ_eq_append_getElem hk, List.filter_append]
  have : (decide (i < xs[k]) && decide (xs[k] < o)) = false := by simpa using h
  simp [this]
theorem ins_len {i o : Int} {xs : List Int} {k : Nat} (hk : k ≤ xs.length) : (insideV i o (xs.take k)).length ≤ k := by
  have := List.length_filter_le (fun c => decide (i < c) && decide (c < o)) (xs.take k)
  rw [List.length_take] at this
  unfold insideV
  omega

theorem inside_any (A : Option Addr) (c : Nat) (xs : List Int) (i o : Int) (w : World) (h : IntsAt w A xs) (hl : xs.length ≤ 9223372036854775807) :
    Calls Tryd.prog 23 #[.slice A xs.length c, .agg #[.int .i64 i, .int .i64 o]] w fun e w' => Gives w (insR i o xs) e w' := by
  have H := Lib.hid h
  clear h
  obtain ⟨B, hB⟩ : ∃ B, B = w.heap.size := ⟨_, rfl⟩
  have HB := Lib.hid hB
  obtain ⟨i0, hi, hz0, hz1, hz2⟩ := info_parts i2
  have HI0 := Lib.hid (And.intro hi (And.intro hz0 (And.intro hz1 hz2)))
  clear hi hz0 hz1 hz2
  cases h0 : (chkS xs == 0) with
  | false =>
    have h0' : (chkS xs != 0) = true := by simpa using h0
    rw [show insR i o xs = [] by simp [insR]; intro hh; simp [hh] at h0]
    go_enter Tryd.func23, Tryd.ntmps23
    go_wp2_with fail
    refine (check_any A c xs _ (H.out.ext ((Below.refl _ _).alloc (Nat.le_refl _) _)) hl).mono ?_
    rintro e w' ⟨rfl, rfl⟩
    go_wp2_with fail
    go_ret
    exact ⟨none, 0, rfl, RowAt.nil _ _, Nat.le_refl _, Nat.zero_le _, (Below.refl _ _).alloc (Nat.le_refl _) _⟩
  | true =>
    have h00 : chkS xs = 0 := by simpa using h0
    have H0 := Lib.hid h00
    have hlen := (chkS_zero h00).1
    rw [show insR i o xs = insideV i o xs by simp [insR, h00]]
    clear h0 h00
    go_enter Tryd.func23, Tryd.ntmps23
    go_wp2_with fail
    rw [← hB]
    generalize hw1 : w.alloc _ = w1
    have hcells : CellsAt w1 B 0 [.int .i64 i, .int .i64 o] := by subst hw1; simp [CellsAt, go_sem, hB]
    have hb1 : Below B w w1 := by subst hw1; rw [hB]; exact (Below.refl _ _).alloc (Nat.le_refl _) _
    have hs : B + 1 ≤ w1.heap.size := by subst hw1; simp [hB]
    have CELLS := Lib.hid hcells
    have HB1 := Lib.hid hb1
    clear hw1 hb1 hB hcells
    refine (check_any A c xs _ (H.out.below HB1.out (by rw [HB.out]; exact Nat.le_refl _)) hl).mono ?_
    rintro e w' ⟨rfl, rfl⟩
    rw [H0.out]
    go_wp2_with fail
    go_loopw [13, 5] (fun iv v wr => ∃ k : Nat, k ≤ xs.length ∧ iv = .int .i64 k ∧ Hid (wr.ownsRow (B + 1) 2 1 v (insideV i o (xs.take k)).length ((insideV i o (xs.take k)).map (Value.int .i64))) ∧ Hid (Below (B + 1) w1 wr) ∧ B + 1 ≤ wr.heap.size) (fun iv _ _ => xs.length - (intOf iv).toNat)
    case atStart => exact ⟨0, by omega, rfl, Lib.hid (World.ownsRow_nil _ _ _ _), Lib.hid (Below.refl _ _), hs⟩
    case round =>
      obtain ⟨k, hk, rfl, hown, hbel, hsz⟩ := hrel
      by_cases hlt : k < xs.length
      · obtain ⟨b2, off, rfl, hc⟩ := (H.out.below (HB1.out.trans (hbel.out.mono (by omega))) (by rw [HB.out]; exact Nat.le_refl _)).get hlt
        have hcells := (CELLS.out).below hbel.out (by omega)
        simp only [CellsAt, Nat.zero_add, Nat.reduceAdd, and_true] at hcells
        obtain ⟨k0, k1⟩ := hcells
        have hml := ins_len (i := i) (o := o) hk
        by_cases hin : i < xs.getD k 0 ∧ xs.getD k 0 < o
        · have HPT := Lib.hid (ins_take_yes hlt hin.1 hin.2)
          obtain ⟨q1, q2⟩ := hin
          generalize xs.getD k 0 = x at *
          generalize insideV i o (xs.take k) = M at *
          go_wp2_with (at_builtin; refine wpList_append_own _ rfl _ _ 22 rfl (B + 1) 2 i0 (.int .i64 0) 1 8 Tryd.underlying22 HI0.out.1 HI0.out.2.1 HI0.out.2.2.1 HI0.out.2.2.2 rfl (by decide) _ M.length (M.map (Value.int .i64)) rfl (hown.out.alloc _) ⟨_, 0, none⟩ 1 1 [.int .i64 x] rfl rfl ?c1 ?c2 ?c3 ?c4 ?c5 ?_)
          case c1 => exact CellsAt.all (by simp [CellsAt, go_sem])
          case c2 => simp [Value.oneCell']
          case c3 => simp only [maxLen]; omega
          case c4 => omega
          case c5 => simp; omega
          intro v2 w2 hown2 hgr _
          have hsz2 : B + 1 ≤ w2.heap.size := by have := hgr.size; simp at this; omega
          have hown3 := Lib.hid hown2
          have hbel2 := Lib.hid (((hbel.out).alloc hsz _).grown hgr (by simp; omega) (fun q hq => (hown.out.lt q hq).1))
          clear hown2 hgr hc
          go_wp2_with fail
          go_roundw
          case rel => exact ⟨k + 1, by omega, by go_num, by rw [HPT.out]; exact Lib.hid (by simpa using hown3.out), Lib.hid hbel2.out, hsz2⟩
          case measure => simp [intOf]; omega
        · have HPT := Lib.hid (ins_take_no hlt hin)
          generalize xs.getD k 0 = x at *
          generalize insideV i o (xs.take k) = M at *
          by_cases q1 : i < x
          · have q2 : o ≤ x := by omega
            clear hin
            go_wp2_with fail
            go_roundw
            case rel => exact ⟨k + 1, by omega, by go_num, by rw [HPT.out]; exact Lib.hid hown.out, Lib.hid hbel.out, hsz⟩
            case measure => simp [intOf]; omega
          · clear hin
            go_wp2_with fail
            go_roundw
            case rel => exact ⟨k + 1, by omega, by go_num, by rw [HPT.out]; exact Lib.hid hown.out, Lib.hid hbel.out, hsz⟩
            case measure => simp [intOf]; omega
      · have hkn : k = xs.length := by omega
        subst hkn
        rw [List.take_length] at hown
        obtain ⟨A2, c2, rfl, hi2, hc2, hm2⟩ := ints_of_own hown.out
        have HF := Lib.hid (And.intro hi2 (And.intro hc2 (And.intro hm2 (HB1.out.trans (hbel.out.mono (by omega))))))
        clear hi2 hc2 hm2 hown
        go_wp2_with fail
        go_ret
        exact ⟨A2, c2, rfl, HF.out.1, HF.out.2.1, HF.out.2.2.1, by rw [← HB.out]; exact HF.out.2.2.2⟩

theorem insider_any (A : Option Addr) (c : Nat) (xs : List Int) (i o : Int) (w : World) (h : IntsAt w A xs) (hl : xs.length ≤ 9223372036854775807) :
    Calls Tryd.prog 24 #[.slice A xs.length c, .agg #[.int .i64 i, .int .i64 o]] w fun e w' => Gives w (insR i o xs) e w' := by
  have H := Lib.hid h
  clear h
  obtain ⟨B, hB⟩ : ∃ B, B = w.heap.size := ⟨_, rfl⟩
  have HB := Lib.hid hB
  obtain ⟨i0, hi, hz0, hz1, hz2⟩ := info_parts i2
  have HI0 := Lib.hid (And.intro hi (And.intro hz0 (And.intro hz1 hz2)))
  clear hi hz0 hz1 hz2
  cases h0 : (chkS xs == 0) with
  | false =>
    have h0' : (chkS xs != 0) = true := by simpa using h0
    rw [show insR i o xs = [] by simp [insR]; intro hh; simp [hh] at h0]
    go_enter Tryd.func24, Tryd.ntmps24
    go_wp2_with fail
    refine (checkr_any A c xs _ (H.out.ext ((Below.refl _ _).alloc (Nat.le_refl _) _)) hl).mono ?_
    rintro e w' ⟨rfl, rfl⟩
    go_wp2_with fail
    go_ret
    exact ⟨none, 0, rfl, RowAt.nil _ _, Nat.le_refl _, Nat.zero_le _, (Below.refl _ _).alloc (Nat.le_refl _) _⟩
  | true =>
    have h00 : chkS xs = 0 := by simpa using h0
    have H0 := Lib.hid h00
    have hlen := (chkS_zero h00).1
    rw [show insR i o xs = insideV i o xs by simp [insR, h00]]
    clear h0 h00
    go_enter Tryd.func24, Tryd.ntmps24
    go_wp2_with fail
    rw [← hB]
    generalize hw1 : w.alloc _ = w1
    have hcells : CellsAt w1 B 0 [.int .i64 i, .int .i64 o] := by subst hw1; simp [CellsAt, go_sem, hB]
    have hb1 : Below B w w1 := by subst hw1; rw [hB]; exact (Below.refl _ _).alloc (Nat.le_refl _) _
    have hs : B + 1 ≤ w1.heap.size := by subst hw1; simp [hB]
    have CELLS := Lib.hid hcells
    have HB1 := Lib.hid hb1
    clear hw1 hb1 hB hcells
    refine (checkr_any A c xs _ (H.out.below HB1.out (by rw [HB.out]; exact Nat.le_refl _)) hl).mono ?_
    rintro e w' ⟨rfl, rfl⟩
    rw [H0.out]
    go_wp2_with fail
    go_loopw [13, 5] (fun iv v wr => ∃ k : Nat, k ≤ xs.length ∧ iv = .int .i64 k ∧ Hid (wr.ownsRow (B + 1) 2 1 v (insideV i o (xs.take k)).length ((insideV i o (xs.take k)).map (Value.int .i64))) ∧ Hid (Below (B + 1) w1 wr) ∧ B + 1 ≤ wr.heap.size) (fun iv _ _ => xs.length - (intOf iv).toNat)
    case atStart => exact ⟨0, by omega, rfl, Lib.hid (World.ownsRow_nil _ _ _ _), Lib.hid (Below.refl _ _), hs⟩
    case round =>
      obtain ⟨k, hk, rfl, hown, hbel, hsz⟩ := hrel
      by_cases hlt : k < xs.length
      · obtain ⟨b2, off, rfl, hc⟩ := (H.out.below (HB1.out.trans (hbel.out.mono (by omega))) (by rw [HB.out]; exact Nat.le_refl _)).get hlt
        have hcells := (CELLS.out).below hbel.out (by omega)
        simp only [CellsAt, Nat.zero_add, Nat.reduceAdd, and_true] at hcells
        obtain ⟨k0, k1⟩ := hcells
        have hml := ins_len (i := i) (o := o) hk
        by_cases hin : i < xs.getD k 0 ∧ xs.getD k 0 < o
        · have HPT := Lib.hid (ins_take_yes hlt hin.1 hin.2)
          obtain ⟨q1, q2⟩ := hin
          generalize xs.getD k 0 = x at *
          generalize insideV i o (xs.take k) = M at *
          go_wp2_with (at_builtin; refine wpList_append_own _ rfl _ _ 22 rfl (B + 1) 2 i0 (.int .i64 0) 1 8 Tryd.underlying22 HI0.out.1 HI0.out.2.1 HI0.out.2.2.1 HI0.out.2.2.2 rfl (by decide) _ M.length (M.map (Value.int .i64)) rfl (hown.out.alloc _) ⟨_, 0, none⟩ 1 1 [.int .i64 x] rfl rfl ?c1 ?c2 ?c3 ?c4 ?c5 ?_)
          case c1 => exact CellsAt.all (by simp [CellsAt, go_sem])
          case c2 => simp [Value.oneCell']
          case c3 => simp only [maxLen]; omega
          case c4 => omega
          case c5 => simp; omega
          intro v2 w2 hown2 hgr _
          have hsz2 : B + 1 ≤ w2.heap.size := by have := hgr.size; simp at this; omega
          have hown3 := Lib.hid hown2
          have hbel2 := Lib.hid (((hbel.out).alloc hsz _).grown hgr (by simp; omega) (fun q hq => (hown.out.lt q hq).1))
          clear hown2 hgr hc
          go_wp2_with fail
          go_roundw
          case rel => exact ⟨k + 1, by omega, by go_num, by rw [HPT.out]; exact Lib.hid (by simpa using hown3.out), Lib.hid hbel2.out, hsz2⟩
          case measure => simp [intOf]; omega
        · have HPT := Lib.hid (ins_take_no hlt hin)
          generalize xs.getD k 0 = x at *
          generalize insideV i o (xs.take k) = M at *
          by_cases q1 : i < x
          · have q2 : o ≤ x := by omega
            clear hin
            go_wp2_with fail
            go_roundw
            case rel => exact ⟨k + 1, by omega, by go_num, by rw [HPT.out]; exact Lib.hid hown.out, Lib.hid hbel.out, hsz⟩
            case measure => simp [intOf]; omega
          · clear hin
            go_wp2_with fail
            go_roundw
            case rel => exact ⟨k + 1, by omega, by go_num, by rw [HPT.out]; exact Lib.hid hown.out, Lib.hid hbel.out, hsz⟩
            case measure => simp [intOf]; omega
      · have hkn : k = xs.length := by omega
        subst hkn
        rw [List.take_length] at hown
        obtain ⟨A2, c2, rfl, hi2, hc2, hm2⟩ := ints_of_own hown.out
        have HF := Lib.hid (And.intro hi2 (And.intro hc2 (And.intro hm2 (HB1.out.trans (hbel.out.mono (by omega))))))
        clear hi2 hc2 hm2 hown
        go_wp2_with fail
        go_ret
        exact ⟨A2, c2, rfl, HF.out.1, HF.out.2.1, HF.out.2.2.1, by rw [← HB.out]; exact HF.out.2.2.2⟩

end Go.Proofs.YtnnhbnkelgmaaaaDoor
