/-
  The law RatioField at every input. Its conditions are its hypotheses.
-/
import Derived.Test.YtdccjkbhmpfcmaaDoorRd
namespace Go.Proofs.YtdccjkbhmpfcmaaDoor
open Go.RowKit
set_option linter.unusedVariables false
set_option linter.unusedSimpArgs false
theorem valid_i64 {n d : Int} (h : validV n d = true) : I64 n ∧ I64 d := by
  have b := valid_bd h
  exact ⟨⟨by omega, by omega⟩, ⟨by omega, by omega⟩⟩
theorem field_sub {an ad bn bd p q : Int} (h : ((p, q), 0) = addV an ad bn bd) : I64 p ∧ I64 q ∧ subV p q bn bd = ((an, ad), 0) := by
  rw [addV] at h
  split at h
  · rename_i hv
    rw [Bool.and_eq_true] at hv
    obtain ⟨h1, h2⟩ := add_sub hv.1 hv.2 h.symm
    have := valid_i64 h1
    exact ⟨this.1, this.2, by rw [subV, if_pos (by simp [h1, hv.2])]; exact h2⟩
  · simp at h
theorem field_div {an ad bn bd p q : Int} (h : ((p, q), 0) = mulV an ad bn bd) (h0 : bn ≠ 0) : I64 p ∧ I64 q ∧ divV p q bn bd = ((an, ad), 0) := by
  rw [mulV] at h
  split at h
  · rename_i hv
    rw [Bool.and_eq_true] at hv
    obtain ⟨h1, h2⟩ := mul_div hv.1 hv.2 h0 h.symm
    have := valid_i64 h1
    exact ⟨this.1, this.2, by rw [divV, if_pos (by simp [h1, hv.2, h0])]; exact h2⟩
  · simp at h
theorem field_law (an ad bn bd : Int) (w : World) (hw0 : Wd w) (h1 : I64 an) (h2 : I64 ad) (h3 : I64 bn) (h4 : I64 bd) :
    Calls Tryd.prog 10 #[rat an ad, rat bn bd] w fun e w' => e = .returned (.bool true) ∧ Below w.heap.size w w' := by
  obtain ⟨B, hB⟩ : ∃ B, B = w.heap.size := ⟨_, rfl⟩
  have HB := Lib.hid hB
  have HW := Lib.hid hw0
  rw [← hB]
  clear hw0
  have K1 := Lib.hid h1
  have K2 := Lib.hid h2
  have K3 := Lib.hid h3
  have K4 := Lib.hid h4
  clear h1 h2 h3 h4
  go_enter Tryd.func10, Tryd.ntmps10
  go_wp2_with fail
  rw [← hB]
  generalize hw : World.alloc _ _ = x1
  have Ha := Lib.hid (show Held x1 B [.int .i64 an, .int .i64 ad] by subst hw; exact (Held.new hB).alloc _)
  have Hb := Lib.hid (show Held x1 (B + 1) [.int .i64 bn, .int .i64 bd] by subst hw; exact Held.new (by simp [hB]))
  have FB := Lib.hid (show Below B w x1 by subst hw; rw [hB]; exact (below_one _ _).alloc (by simp) _)
  have fs : B + 2 ≤ x1.heap.size := by subst hw; simp [hB]
  clear hw hB
  refine (awake_any _ (HW.out.on (by rw [← HB.out]; exact FB.out))).mono ?_
  rintro e x2 ⟨rfl, hb⟩
  replace Ha := Lib.hid (Ha.out.ext hb)
  replace Hb := Lib.hid (Hb.out.ext hb)
  replace FB := Lib.hid (FB.out.trans (hb.mono (by omega)))
  replace fs := Nat.le_trans fs hb.size
  clear hb
  obtain ⟨ca0, ca1, _, _⟩ := Ha.out.two
  obtain ⟨cb0, cb1, _, _⟩ := Hb.out.two
  go_wp2_with fail
  refine (add_any an ad bn bd _ K1.out K2.out K3.out K4.out).mono ?_
  rintro e x3 ⟨rfl, hb⟩
  replace Ha := Lib.hid (Ha.out.ext hb)
  replace Hb := Lib.hid (Hb.out.ext hb)
  replace FB := Lib.hid (FB.out.trans (hb.mono (by omega)))
  replace fs := Nat.le_trans fs hb.size
  clear hb
  clear ca0 ca1 cb0 cb1
  obtain ⟨S, hS⟩ : ∃ S, S = addV an ad bn bd := ⟨_, rfl⟩
  rw [← hS]
  have HS := Lib.hid hS
  clear hS
  obtain ⟨⟨p, q⟩, e⟩ := S
  dsimp only [pairE]
  have MUL := Lib.hid (fun w => mul_any an ad bn bd w K1.out K2.out K3.out K4.out)
  obtain ⟨M, hM⟩ : ∃ M, M = mulV an ad bn bd := ⟨_, rfl⟩
  rw [← hM] at MUL
  have HM := Lib.hid hM
  clear hM
  obtain ⟨⟨s, t⟩, f⟩ := M
  dsimp only [pairE] at MUL
  by_cases he : e = 0
  · skip
    subst he
    have HA := Lib.hid (field_sub HS.out)
    obtain ⟨ca0, ca1, _, _⟩ := (Ha.out.alloc (.cells #[.int .i64 p, .int .i64 q] 24 (0, 0))).two
    obtain ⟨cb0, cb1, _, _⟩ := (Hb.out.alloc (.cells #[.int .i64 p, .int .i64 q] 24 (0, 0))).two
    go_wp2_with fail
    obtain ⟨b1, hb1⟩ : ∃ b, b = x3.heap.size := ⟨_, rfl⟩
    rw [← hb1]
    generalize hw : World.alloc _ _ = x4
    replace Ha := Lib.hid (show Held x4 B [.int .i64 an, .int .i64 ad] by subst hw; exact Ha.out.alloc _)
    replace Hb := Lib.hid (show Held x4 (B + 1) [.int .i64 bn, .int .i64 bd] by subst hw; exact Hb.out.alloc _)
    have H1 := Lib.hid (show Held x4 b1 [.int .i64 p, .int .i64 q] by subst hw; exact Held.new hb1)
    replace FB := Lib.hid (show Below B w x4 by subst hw; exact FB.out.alloc (by omega) _)
    replace fs := Nat.le_trans fs (show x3.heap.size ≤ x4.heap.size by subst hw; simp)
    clear hw hb1
    clear ca0 ca1 cb0 cb1
    refine (sub_any p q bn bd _ HA.out.1 HA.out.2.1 K3.out K4.out).mono ?_
    rintro e x5 ⟨rfl, hb⟩
    replace Ha := Lib.hid (Ha.out.ext hb)
    replace Hb := Lib.hid (Hb.out.ext hb)
    replace H1 := Lib.hid (H1.out.ext hb)
    replace FB := Lib.hid (FB.out.trans (hb.mono (by omega)))
    replace fs := Nat.le_trans fs hb.size
    clear hb
    rw [HA.out.2.2]
    dsimp only [pairE]
    obtain ⟨ca0, ca1, _, _⟩ := (Ha.out.alloc (.cells #[.int .i64 an, .int .i64 ad] 24 (0, 0))).two
    obtain ⟨cb0, cb1, _, _⟩ := (Hb.out.alloc (.cells #[.int .i64 an, .int .i64 ad] 24 (0, 0))).two
    go_wp2_with fail
    obtain ⟨b2, hb2⟩ : ∃ b, b = x5.heap.size := ⟨_, rfl⟩
    rw [← hb2]
    generalize hw : World.alloc _ _ = x6
    replace Ha := Lib.hid (show Held x6 B [.int .i64 an, .int .i64 ad] by subst hw; exact Ha.out.alloc _)
    replace Hb := Lib.hid (show Held x6 (B + 1) [.int .i64 bn, .int .i64 bd] by subst hw; exact Hb.out.alloc _)
    replace H1 := Lib.hid (show Held x6 b1 [.int .i64 p, .int .i64 q] by subst hw; exact H1.out.alloc _)
    have H2 := Lib.hid (show Held x6 b2 [.int .i64 an, .int .i64 ad] by subst hw; exact Held.new hb2)
    replace FB := Lib.hid (show Below B w x6 by subst hw; exact FB.out.alloc (by omega) _)
    replace fs := Nat.le_trans fs (show x5.heap.size ≤ x6.heap.size by subst hw; simp)
    clear hw hb2
    clear ca0 ca1 cb0 cb1
    obtain ⟨ca0, ca1, _, _⟩ := Ha.out.two
    obtain ⟨cb0, cb1, _, _⟩ := Hb.out.two
    refine (MUL.out _).mono ?_
    rintro e x7 ⟨rfl, hb⟩
    replace Ha := Lib.hid (Ha.out.ext hb)
    replace Hb := Lib.hid (Hb.out.ext hb)
    replace H1 := Lib.hid (H1.out.ext hb)
    replace H2 := Lib.hid (H2.out.ext hb)
    replace FB := Lib.hid (FB.out.trans (hb.mono (by omega)))
    replace fs := Nat.le_trans fs hb.size
    clear hb
    clear ca0 ca1 cb0 cb1
    obtain ⟨ca0, ca1, _, _⟩ := (Ha.out.alloc (.cells #[.int .i64 s, .int .i64 t] 24 (0, 0))).two
    obtain ⟨cb0, cb1, _, _⟩ := (Hb.out.alloc (.cells #[.int .i64 s, .int .i64 t] 24 (0, 0))).two
    by_cases hf : f = 0
    · skip
      subst hf
      by_cases h0 : bn = 0
      · skip
        subst h0
        go_wp2_with fail
        have FB := Lib.hid (FB.out.alloc (by omega) (.cells #[.int .i64 s, .int .i64 t] 24))
        go_ret
        exact ⟨rfl, FB.out⟩
      · have h0b : (bn != 0) = true := by simpa using h0
        have HD := Lib.hid (field_div HM.out h0)
        go_wp2_with fail
        obtain ⟨b3, hb3⟩ : ∃ b, b = x7.heap.size := ⟨_, rfl⟩
        rw [← hb3]
        generalize hw : World.alloc _ _ = x8
        replace Ha := Lib.hid (show Held x8 B [.int .i64 an, .int .i64 ad] by subst hw; exact Ha.out.alloc _)
        replace Hb := Lib.hid (show Held x8 (B + 1) [.int .i64 bn, .int .i64 bd] by subst hw; exact Hb.out.alloc _)
        replace H1 := Lib.hid (show Held x8 b1 [.int .i64 p, .int .i64 q] by subst hw; exact H1.out.alloc _)
        replace H2 := Lib.hid (show Held x8 b2 [.int .i64 an, .int .i64 ad] by subst hw; exact H2.out.alloc _)
        have H3 := Lib.hid (show Held x8 b3 [.int .i64 s, .int .i64 t] by subst hw; exact Held.new hb3)
        replace FB := Lib.hid (show Below B w x8 by subst hw; exact FB.out.alloc (by omega) _)
        replace fs := Nat.le_trans fs (show x7.heap.size ≤ x8.heap.size by subst hw; simp)
        clear hw hb3
        clear ca0 ca1 cb0 cb1
        refine (div_any s t bn bd _ HD.out.1 HD.out.2.1 K3.out K4.out).mono ?_
        rintro e x9 ⟨rfl, hb⟩
        replace Ha := Lib.hid (Ha.out.ext hb)
        replace Hb := Lib.hid (Hb.out.ext hb)
        replace H1 := Lib.hid (H1.out.ext hb)
        replace H2 := Lib.hid (H2.out.ext hb)
        replace H3 := Lib.hid (H3.out.ext hb)
        replace FB := Lib.hid (FB.out.trans (hb.mono (by omega)))
        replace fs := Nat.le_trans fs hb.size
        clear hb
        rw [HD.out.2.2]
        dsimp only [pairE]
        obtain ⟨ca0, ca1, _, _⟩ := (Ha.out.alloc (.cells #[.int .i64 an, .int .i64 ad] 24 (0, 0))).two
        go_wp2_with fail
        have FB := Lib.hid (FB.out.alloc (by omega) (.cells #[.int .i64 an, .int .i64 ad] 24))
        go_ret
        exact ⟨rfl, FB.out⟩
    · have hfb : (f == 0) = false := by simpa using hf
      go_wp2_with fail
      have FB := Lib.hid (FB.out.alloc (by omega) (.cells #[.int .i64 s, .int .i64 t] 24))
      go_ret
      exact ⟨rfl, FB.out⟩
  · have heb : (e == 0) = false := by simpa using he
    obtain ⟨ca0, ca1, _, _⟩ := (Ha.out.alloc (.cells #[.int .i64 p, .int .i64 q] 24 (0, 0))).two
    obtain ⟨cb0, cb1, _, _⟩ := (Hb.out.alloc (.cells #[.int .i64 p, .int .i64 q] 24 (0, 0))).two
    go_wp2_with fail
    obtain ⟨b1, hb1⟩ : ∃ b, b = x3.heap.size := ⟨_, rfl⟩
    rw [← hb1]
    generalize hw : World.alloc _ _ = x4
    replace Ha := Lib.hid (show Held x4 B [.int .i64 an, .int .i64 ad] by subst hw; exact Ha.out.alloc _)
    replace Hb := Lib.hid (show Held x4 (B + 1) [.int .i64 bn, .int .i64 bd] by subst hw; exact Hb.out.alloc _)
    have H1 := Lib.hid (show Held x4 b1 [.int .i64 p, .int .i64 q] by subst hw; exact Held.new hb1)
    replace FB := Lib.hid (show Below B w x4 by subst hw; exact FB.out.alloc (by omega) _)
    replace fs := Nat.le_trans fs (show x3.heap.size ≤ x4.heap.size by subst hw; simp)
    clear hw hb1
    clear ca0 ca1 cb0 cb1
    obtain ⟨ca0, ca1, _, _⟩ := Ha.out.two
    obtain ⟨cb0, cb1, _, _⟩ := Hb.out.two
    refine (MUL.out _).mono ?_
    rintro e x5 ⟨rfl, hb⟩
    replace Ha := Lib.hid (Ha.out.ext hb)
    replace Hb := Lib.hid (Hb.out.ext hb)
    replace H1 := Lib.hid (H1.out.ext hb)
    replace FB := Lib.hid (FB.out.trans (hb.mono (by omega)))
    replace fs := Nat.le_trans fs hb.size
    clear hb
    clear ca0 ca1 cb0 cb1
    obtain ⟨ca0, ca1, _, _⟩ := (Ha.out.alloc (.cells #[.int .i64 s, .int .i64 t] 24 (0, 0))).two
    obtain ⟨cb0, cb1, _, _⟩ := (Hb.out.alloc (.cells #[.int .i64 s, .int .i64 t] 24 (0, 0))).two
    by_cases hf : f = 0
    · skip
      subst hf
      by_cases h0 : bn = 0
      · skip
        subst h0
        go_wp2_with fail
        have FB := Lib.hid (FB.out.alloc (by omega) (.cells #[.int .i64 s, .int .i64 t] 24))
        go_ret
        exact ⟨rfl, FB.out⟩
      · have h0b : (bn != 0) = true := by simpa using h0
        have HD := Lib.hid (field_div HM.out h0)
        go_wp2_with fail
        obtain ⟨b3, hb3⟩ : ∃ b, b = x5.heap.size := ⟨_, rfl⟩
        rw [← hb3]
        generalize hw : World.alloc _ _ = x6
        replace Ha := Lib.hid (show Held x6 B [.int .i64 an, .int .i64 ad] by subst hw; exact Ha.out.alloc _)
        replace Hb := Lib.hid (show Held x6 (B + 1) [.int .i64 bn, .int .i64 bd] by subst hw; exact Hb.out.alloc _)
        replace H1 := Lib.hid (show Held x6 b1 [.int .i64 p, .int .i64 q] by subst hw; exact H1.out.alloc _)
        have H3 := Lib.hid (show Held x6 b3 [.int .i64 s, .int .i64 t] by subst hw; exact Held.new hb3)
        replace FB := Lib.hid (show Below B w x6 by subst hw; exact FB.out.alloc (by omega) _)
        replace fs := Nat.le_trans fs (show x5.heap.size ≤ x6.heap.size by subst hw; simp)
        clear hw hb3
        clear ca0 ca1 cb0 cb1
        refine (div_any s t bn bd _ HD.out.1 HD.out.2.1 K3.out K4.out).mono ?_
        rintro e x7 ⟨rfl, hb⟩
        replace Ha := Lib.hid (Ha.out.ext hb)
        replace Hb := Lib.hid (Hb.out.ext hb)
        replace H1 := Lib.hid (H1.out.ext hb)
        replace H3 := Lib.hid (H3.out.ext hb)
        replace FB := Lib.hid (FB.out.trans (hb.mono (by omega)))
        replace fs := Nat.le_trans fs hb.size
        clear hb
        rw [HD.out.2.2]
        dsimp only [pairE]
        obtain ⟨ca0, ca1, _, _⟩ := (Ha.out.alloc (.cells #[.int .i64 an, .int .i64 ad] 24 (0, 0))).two
        go_wp2_with fail
        have FB := Lib.hid (FB.out.alloc (by omega) (.cells #[.int .i64 an, .int .i64 ad] 24))
        go_ret
        exact ⟨rfl, FB.out⟩
    · have hfb : (f == 0) = false := by simpa using hf
      go_wp2_with fail
      have FB := Lib.hid (FB.out.alloc (by omega) (.cells #[.int .i64 s, .int .i64 t] 24))
      go_ret
      exact ⟨rfl, FB.out⟩
end Go.Proofs.YtdccjkbhmpfcmaaDoor
