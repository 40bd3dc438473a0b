/-
  The laws Aims, Rows and Events return true for all numbers. Without conditions.
-/
import Derived.Test.YtbebnbpdemdocaaAwk
namespace Go.Proofs.Ytbebnbpdemdocaa
open Go.RowKit
set_option linter.unusedVariables false
theorem beq_x (x : Int) : (x == x) = true := by simp
theorem aims_no (t w : Int) (W : World) (h : wi t 1 10000 = false ∨ wi w 1 32 = false) :
    Calls Try.prog 4 #[.int .i64 t, .int .i64 w] W fun e w' => e = .returned (.bool true) ∧ Below W.heap.size W w' := by
  have h2 : t < 1 ∨ 10000 < t ∨ w < 1 ∨ 32 < w := by
    rcases h with h | h <;> have := wi_not h <;> omega
  have H := Lib.hid h
  have H2 := Lib.hid h2
  clear h h2
  go_enter Try.func4, Try.ntmps4
  go_wp2_with fail
  refine (awake_any _).mono ?_
  rintro e w1 ⟨rfl, hb1⟩
  go_wp2_with fail
  refine (aim_no t w _ H2.out).mono ?_
  rintro e w' ⟨rfl, rfl⟩
  go_wp2_with fail
  refine (aimr_no t w _ H.out).mono ?_
  rintro e w' ⟨rfl, rfl⟩
  go_wp2_with fail
  go_ret
  exact ⟨rfl, hb1⟩
theorem aims_yes (t w : Int) (W : World) (h1 : 1 ≤ t) (h2 : t ≤ 10000) (h3 : 1 ≤ w) (h4 : w ≤ 32) :
    Calls Try.prog 4 #[.int .i64 t, .int .i64 w] W fun e w' => e = .returned (.bool true) ∧ Below W.heap.size W w' := by
  have hf := aim_facts h1 h2 h3 h4
  have hu := up_bd h1 h2 h3
  obtain ⟨f1, f2, f3, f4⟩ := hf
  have hax := beq_x (aimV t w)
  have g3 : aimV t w * ((t + w - 1) / w) ≤ 32 * 10000 := Int.mul_le_mul (by omega) hu.2 (by omega) (by omega)
  have g4 : 0 ≤ (aimV t w - 1) * ((t + w - 1) / w) := Int.mul_nonneg (by omega) (by omega)
  have C1 := aim_yes t w
  have C2 := aimr_yes t w
  generalize aimV t w = a at *
  have HC1 := Lib.hid C1
  have HC2 := Lib.hid C2
  clear C1 C2
  go_enter Try.func4, Try.ntmps4
  go_wp2_with fail
  refine (awake_any _).mono ?_
  rintro e w1 ⟨rfl, hb1⟩
  go_wp2_with fail
  refine (HC1.out _ h1 h2 h3 h4).mono ?_
  rintro e w' ⟨rfl, rfl⟩
  go_wp2_with fail
  refine (HC2.out _ h1 h2 h3 h4).mono ?_
  rintro e w' ⟨rfl, rfl⟩
  go_wp2_with fail
  go_ret
  exact ⟨rfl, hb1⟩
theorem aims_any (t w : Int) (W : World) : Calls Try.prog 4 #[.int .i64 t, .int .i64 w] W fun e w' => e = .returned (.bool true) ∧ Below W.heap.size W w' := by
  cases ht : wi t 1 10000 with
  | false => exact aims_no t w W (.inl ht)
  | true =>
    cases hw : wi w 1 32 with
    | false => exact aims_no t w W (.inr hw)
    | true => exact aims_yes t w W (wi_of ht).1 (wi_of ht).2 (wi_of hw).1 (wi_of hw).2


theorem row_both (c0 c1 c2 c3 c4 c5 c6 c7 c8 c9 c10 c11 a l s : Int) : ∃ x y : Int,
    (∀ w, Calls Try.prog 16 #[.agg #[.int .i64 c0, .int .i64 c1, .int .i64 c2, .int .i64 c3, .int .i64 c4, .int .i64 c5, .int .i64 c6, .int .i64 c7, .int .i64 c8, .int .i64 c9, .int .i64 c10, .int .i64 c11], .int .i64 a, .int .i64 l, .int .i64 s] w fun e w' => e = .returned (.tuple #[.int .i64 x, .int .i64 y]) ∧ Below w.heap.size w w') ∧
    (∀ w, Calls Try.prog 17 #[.agg #[.int .i64 c0, .int .i64 c1, .int .i64 c2, .int .i64 c3, .int .i64 c4, .int .i64 c5, .int .i64 c6, .int .i64 c7, .int .i64 c8, .int .i64 c9, .int .i64 c10, .int .i64 c11], .int .i64 a, .int .i64 l, .int .i64 s] w fun e w' => e = .returned (.tuple #[.int .i64 x, .int .i64 y]) ∧ Below w.heap.size w w') := by
  by_cases h0 : pchk [c0, c1, c2, c3, c4, c5, c6, c7, c8, c9, c10, c11] = 0
  · have b0 : ∀ c ∈ ([c0, c1, c2, c3, c4, c5, c6, c7, c8, c9, c10, c11] : List Int), 0 ≤ c ∧ c ≤ 1000000 := pchk_in h0
    cases ha : wi a 1 32 with
    | false => exact ⟨0, 2, fun w => row_no0 c0 c1 c2 c3 c4 c5 c6 c7 c8 c9 c10 c11 a l s w h0 ha, fun w => rowr_no0 c0 c1 c2 c3 c4 c5 c6 c7 c8 c9 c10 c11 a l s w h0 ha⟩
    | true =>
      cases hl : wi l 1 32 with
      | false => exact ⟨0, 2, fun w => row_no1 c0 c1 c2 c3 c4 c5 c6 c7 c8 c9 c10 c11 a l s w h0 ha hl, fun w => rowr_no1 c0 c1 c2 c3 c4 c5 c6 c7 c8 c9 c10 c11 a l s w h0 ha hl⟩
      | true =>
        cases hs : wi s (-1) 5 with
        | false => exact ⟨0, 2, fun w => row_no2 c0 c1 c2 c3 c4 c5 c6 c7 c8 c9 c10 c11 a l s w h0 ha hl hs, fun w => rowr_no2 c0 c1 c2 c3 c4 c5 c6 c7 c8 c9 c10 c11 a l s w h0 ha hl hs⟩
        | true =>
          have ⟨a1, a2⟩ := wi_of ha
          have ⟨l1, l2⟩ := wi_of hl
          have ⟨s1, s2⟩ := wi_of hs
          by_cases hn : s < 0
          · exact ⟨_, _, fun w => row_yesn c0 c1 c2 c3 c4 c5 c6 c7 c8 c9 c10 c11 a l s s1 hn w h0 a1 a2 l1 l2 b0, fun w => rowr_yesn c0 c1 c2 c3 c4 c5 c6 c7 c8 c9 c10 c11 a l s s1 hn w h0 a1 a2 l1 l2 b0⟩
          · obtain ⟨k, rfl⟩ := Int.eq_ofNat_of_zero_le (show 0 ≤ s by omega)
            exact ⟨_, _, fun w => row_yesp c0 c1 c2 c3 c4 c5 c6 c7 c8 c9 c10 c11 a l k (by omega) w h0 a1 a2 l1 l2 b0, fun w => rowr_yesp c0 c1 c2 c3 c4 c5 c6 c7 c8 c9 c10 c11 a l k (by omega) w h0 a1 a2 l1 l2 b0⟩
  · have hx : (pchk [c0, c1, c2, c3, c4, c5, c6, c7, c8, c9, c10, c11] == 0) = false := by simpa using h0
    exact ⟨0, _, fun w => row_bad c0 c1 c2 c3 c4 c5 c6 c7 c8 c9 c10 c11 a l s w _ rfl hx, fun w => rowr_bad c0 c1 c2 c3 c4 c5 c6 c7 c8 c9 c10 c11 a l s w _ rfl hx⟩
theorem event_both (c0 c1 c2 c3 c4 c5 c6 c7 c8 c9 c10 c11 f g s k : Int) (b : Bool) : ∃ x y : Int,
    (∀ w, Calls Try.prog 18 #[.agg #[.int .i64 c0, .int .i64 c1, .int .i64 c2, .int .i64 c3, .int .i64 c4, .int .i64 c5, .int .i64 c6, .int .i64 c7, .int .i64 c8, .int .i64 c9, .int .i64 c10, .int .i64 c11], .agg #[.int .i64 f, .int .i64 g, .int .i64 s, .int .i64 k, .bool b]] w fun e w' => e = .returned (.tuple #[.int .i64 x, .int .i64 y]) ∧ Below w.heap.size w w') ∧
    (∀ w, Calls Try.prog 19 #[.agg #[.int .i64 c0, .int .i64 c1, .int .i64 c2, .int .i64 c3, .int .i64 c4, .int .i64 c5, .int .i64 c6, .int .i64 c7, .int .i64 c8, .int .i64 c9, .int .i64 c10, .int .i64 c11], .agg #[.int .i64 f, .int .i64 g, .int .i64 s, .int .i64 k, .bool b]] w fun e w' => e = .returned (.tuple #[.int .i64 x, .int .i64 y]) ∧ Below w.heap.size w w') := by
  by_cases h0 : pchk [c0, c1, c2, c3, c4, c5, c6, c7, c8, c9, c10, c11] = 0
  · have b0 : ∀ c ∈ ([c0, c1, c2, c3, c4, c5, c6, c7, c8, c9, c10, c11] : List Int), 0 ≤ c ∧ c ≤ 1000000 := pchk_in h0
    cases hf : wi f 0 5184000 with
    | false => exact ⟨0, 2, fun w => event_nof c0 c1 c2 c3 c4 c5 c6 c7 c8 c9 c10 c11 f g s k b w h0 hf, fun w => eventr_nof c0 c1 c2 c3 c4 c5 c6 c7 c8 c9 c10 c11 f g s k b w h0 hf⟩
    | true =>
      cases hg : wi g 0 5184000 with
      | false => exact ⟨0, 2, fun w => event_nog c0 c1 c2 c3 c4 c5 c6 c7 c8 c9 c10 c11 f g s k b w h0 hf hg, fun w => eventr_nog c0 c1 c2 c3 c4 c5 c6 c7 c8 c9 c10 c11 f g s k b w h0 hf hg⟩
      | true =>
        cases hs : wi s 0 400 with
        | false => exact ⟨0, 2, fun w => event_nos c0 c1 c2 c3 c4 c5 c6 c7 c8 c9 c10 c11 f g s k b w h0 hf hg hs, fun w => eventr_nos c0 c1 c2 c3 c4 c5 c6 c7 c8 c9 c10 c11 f g s k b w h0 hf hg hs⟩
        | true =>
          cases hk : wi k 0 5 with
          | false => exact ⟨0, 2, fun w => event_nok c0 c1 c2 c3 c4 c5 c6 c7 c8 c9 c10 c11 f g s k b w h0 hf hg hs hk, fun w => eventr_nok c0 c1 c2 c3 c4 c5 c6 c7 c8 c9 c10 c11 f g s k b w h0 hf hg hs hk⟩
          | true =>
            have ⟨k1, k2⟩ := wi_of hk
            obtain ⟨m, rfl⟩ := Int.eq_ofNat_of_zero_le k1
            cases b with
            | true => exact ⟨_, _, fun w => event_yes_true c0 c1 c2 c3 c4 c5 c6 c7 c8 c9 c10 c11 f g s m (by omega) w h0 (wi_of hf) (wi_of hg) (wi_of hs) b0, fun w => eventr_yes_true c0 c1 c2 c3 c4 c5 c6 c7 c8 c9 c10 c11 f g s m (by omega) w h0 (wi_of hf) (wi_of hg) (wi_of hs) b0⟩
            | false => exact ⟨_, _, fun w => event_yes_false c0 c1 c2 c3 c4 c5 c6 c7 c8 c9 c10 c11 f g s m (by omega) w h0 (wi_of hf) (wi_of hg) (wi_of hs) b0, fun w => eventr_yes_false c0 c1 c2 c3 c4 c5 c6 c7 c8 c9 c10 c11 f g s m (by omega) w h0 (wi_of hf) (wi_of hg) (wi_of hs) b0⟩
  · have hx : (pchk [c0, c1, c2, c3, c4, c5, c6, c7, c8, c9, c10, c11] == 0) = false := by simpa using h0
    exact ⟨0, _, fun w => event_bad c0 c1 c2 c3 c4 c5 c6 c7 c8 c9 c10 c11 f g s k b w _ rfl hx, fun w => eventr_bad c0 c1 c2 c3 c4 c5 c6 c7 c8 c9 c10 c11 f g s k b w _ rfl hx⟩

theorem rows_any (c0 c1 c2 c3 c4 c5 c6 c7 c8 c9 c10 c11 a l s : Int) (W : World) : Calls Try.prog 5 #[.agg #[.int .i64 c0, .int .i64 c1, .int .i64 c2, .int .i64 c3, .int .i64 c4, .int .i64 c5, .int .i64 c6, .int .i64 c7, .int .i64 c8, .int .i64 c9, .int .i64 c10, .int .i64 c11], .agg #[.int .i64 a, .int .i64 l], .int .i64 s] W fun e w' => e = .returned (.bool true) ∧ Below W.heap.size W w' := by
  obtain ⟨x, y, C1, C2⟩ := row_both c0 c1 c2 c3 c4 c5 c6 c7 c8 c9 c10 c11 a l s
  have hx := beq_x x
  have hy := beq_x y
  have HC1 := Lib.hid C1
  have HC2 := Lib.hid C2
  clear C1 C2
  go_enter Try.func5, Try.ntmps5
  go_wp2_with fail
  generalize hw1 : (W.alloc (.cells #[.int .i64 c0, .int .i64 c1, .int .i64 c2, .int .i64 c3, .int .i64 c4, .int .i64 c5, .int .i64 c6, .int .i64 c7, .int .i64 c8, .int .i64 c9, .int .i64 c10, .int .i64 c11] 24)).alloc _ = w1
  have hct : CellsAt w1 W.heap.size 0 [.int .i64 c0, .int .i64 c1, .int .i64 c2, .int .i64 c3, .int .i64 c4, .int .i64 c5, .int .i64 c6, .int .i64 c7, .int .i64 c8, .int .i64 c9, .int .i64 c10, .int .i64 c11] := by
    subst hw1; simp [CellsAt, go_sem]
  have hcl : CellsAt w1 (W.heap.size + 1) 0 [.int .i64 a, .int .i64 l] := by
    subst hw1; simp [CellsAt, go_sem]
  have hsz : W.heap.size + 1 < w1.heap.size := by subst hw1; simp
  have hb0 : Below W.heap.size W w1 := by subst hw1; exact ((Below.refl _ _).alloc (Nat.le_refl _) _).alloc (by simp) _
  clear hw1
  refine (awake_any _).mono ?_
  rintro e w2 ⟨rfl, hb1⟩
  have hct2 := hct.below hb1 (by omega)
  have hcl2 := hcl.below hb1 hsz
  have hsz2 : W.heap.size + 1 < w2.heap.size := Nat.lt_of_lt_of_le hsz hb1.size
  have hb2 : Below W.heap.size W w2 := hb0.trans (hb1.mono hb0.size)
  clear hct hcl hsz hb0 hb1
  have HT := Lib.hid hct2
  have HL := Lib.hid hcl2
  simp only [CellsAt, Nat.zero_add, Nat.reduceAdd, and_true] at hct2 hcl2
  obtain ⟨q0, q1, q2, q3, q4, q5, q6, q7, q8, q9, q10, q11⟩ := hct2
  obtain ⟨r0, r1⟩ := hcl2
  go_wp2_with fail
  refine (HC1.out _).mono ?_
  rintro e w3 ⟨rfl, hb3⟩
  clear q0 q1 q2 q3 q4 q5 q6 q7 q8 q9 q10 q11 r0 r1
  have hct2 := HT.out.below hb3 (by omega)
  have hcl2 := HL.out.below hb3 hsz2
  have hb4 : Below W.heap.size W w3 := hb2.trans (hb3.mono hb2.size)
  clear HT HL hb2 hb3
  simp only [CellsAt, Nat.zero_add, Nat.reduceAdd, and_true] at hct2 hcl2
  obtain ⟨q0, q1, q2, q3, q4, q5, q6, q7, q8, q9, q10, q11⟩ := hct2
  obtain ⟨r0, r1⟩ := hcl2
  go_wp2_with fail
  refine (HC2.out _).mono ?_
  rintro e w4 ⟨rfl, hb5⟩
  clear q0 q1 q2 q3 q4 q5 q6 q7 q8 q9 q10 q11 r0 r1
  have hb6 : Below W.heap.size W w4 := hb4.trans (hb5.mono hb4.size)
  go_wp2_with fail
  go_ret
  exact ⟨rfl, hb6⟩
theorem events_any (c0 c1 c2 c3 c4 c5 c6 c7 c8 c9 c10 c11 f g s k : Int) (b : Bool) (W : World) : Calls Try.prog 6 #[.agg #[.int .i64 c0, .int .i64 c1, .int .i64 c2, .int .i64 c3, .int .i64 c4, .int .i64 c5, .int .i64 c6, .int .i64 c7, .int .i64 c8, .int .i64 c9, .int .i64 c10, .int .i64 c11], .agg #[.int .i64 f, .int .i64 g, .int .i64 s, .int .i64 k, .bool b]] W fun e w' => e = .returned (.bool true) ∧ Below W.heap.size W w' := by
  obtain ⟨x, y, C1, C2⟩ := event_both c0 c1 c2 c3 c4 c5 c6 c7 c8 c9 c10 c11 f g s k b
  have hx := beq_x x
  have hy := beq_x y
  have HC1 := Lib.hid C1
  have HC2 := Lib.hid C2
  clear C1 C2
  go_enter Try.func6, Try.ntmps6
  go_wp2_with fail
  generalize hw1 : (W.alloc (.cells #[.int .i64 c0, .int .i64 c1, .int .i64 c2, .int .i64 c3, .int .i64 c4, .int .i64 c5, .int .i64 c6, .int .i64 c7, .int .i64 c8, .int .i64 c9, .int .i64 c10, .int .i64 c11] 24)).alloc _ = w1
  have hct : CellsAt w1 W.heap.size 0 [.int .i64 c0, .int .i64 c1, .int .i64 c2, .int .i64 c3, .int .i64 c4, .int .i64 c5, .int .i64 c6, .int .i64 c7, .int .i64 c8, .int .i64 c9, .int .i64 c10, .int .i64 c11] := by
    subst hw1; simp [CellsAt, go_sem]
  have hcl : CellsAt w1 (W.heap.size + 1) 0 [.int .i64 f, .int .i64 g, .int .i64 s, .int .i64 k, .bool b] := by
    subst hw1; simp [CellsAt, go_sem]
  have hsz : W.heap.size + 1 < w1.heap.size := by subst hw1; simp
  have hb0 : Below W.heap.size W w1 := by subst hw1; exact ((Below.refl _ _).alloc (Nat.le_refl _) _).alloc (by simp) _
  clear hw1
  refine (awake_any _).mono ?_
  rintro e w2 ⟨rfl, hb1⟩
  have hct2 := hct.below hb1 (by omega)
  have hcl2 := hcl.below hb1 hsz
  have hsz2 : W.heap.size + 1 < w2.heap.size := Nat.lt_of_lt_of_le hsz hb1.size
  have hb2 : Below W.heap.size W w2 := hb0.trans (hb1.mono hb0.size)
  clear hct hcl hsz hb0 hb1
  have HT := Lib.hid hct2
  have HL := Lib.hid hcl2
  simp only [CellsAt, Nat.zero_add, Nat.reduceAdd, and_true] at hct2 hcl2
  obtain ⟨q0, q1, q2, q3, q4, q5, q6, q7, q8, q9, q10, q11⟩ := hct2
  obtain ⟨r0, r1, r2, r3, r4⟩ := hcl2
  go_wp2_with fail
  refine (HC1.out _).mono ?_
  rintro e w3 ⟨rfl, hb3⟩
  clear q0 q1 q2 q3 q4 q5 q6 q7 q8 q9 q10 q11 r0 r1 r2 r3 r4
  have hct2 := HT.out.below hb3 (by omega)
  have hcl2 := HL.out.below hb3 hsz2
  have hb4 : Below W.heap.size W w3 := hb2.trans (hb3.mono hb2.size)
  clear HT HL hb2 hb3
  simp only [CellsAt, Nat.zero_add, Nat.reduceAdd, and_true] at hct2 hcl2
  obtain ⟨q0, q1, q2, q3, q4, q5, q6, q7, q8, q9, q10, q11⟩ := hct2
  obtain ⟨r0, r1, r2, r3, r4⟩ := hcl2
  go_wp2_with fail
  refine (HC2.out _).mono ?_
  rintro e w4 ⟨rfl, hb5⟩
  clear q0 q1 q2 q3 q4 q5 q6 q7 q8 q9 q10 q11 r0 r1 r2 r3 r4
  have hb6 : Below W.heap.size W w4 := hb4.trans (hb5.mono hb4.size)
  go_wp2_with fail
  go_ret
  exact ⟨rfl, hb6⟩
end Go.Proofs.Ytbebnbpdemdocaa
