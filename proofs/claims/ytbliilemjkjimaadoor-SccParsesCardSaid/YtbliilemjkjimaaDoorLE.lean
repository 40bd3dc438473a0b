/-
  The contract of the law SccParses. Its conditions are its hypotheses.
-/
import Derived.Test.YtbliilemjkjimaaDoorDf
import Derived.Test.YtbliilemjkjimaaDoorCm
namespace Go.Proofs.YtbliilemjkjimaaDoor
open Go.RowKit Go.Joins
set_option linter.unusedVariables false
set_option linter.unusedSimpArgs false
theorem diags_nil (w : World) : Calls Tryd.prog 21 #[.slice none 0 0, .slice none 0 0] w fun e w' => e = .returned (.bool true) ∧ Below w.heap.size w w' := by
  go_enter Tryd.func21, Tryd.ntmps21
  go_wp2_with fail
  go_loop [13] (fun i => i = .int .i64 0) (fun i => 0)
  case atStart => exact rfl
  case round =>
    subst hrel
    go_wp2_with fail
    go_ret
    exact ⟨rfl, Below.refl _ _⟩
theorem diags_one (g1 g2 : Nat) (a b c : Int) (w : World) (h1 : RowAt w (some ⟨g1, 0, none⟩) [.int .i64 a, .int .i64 b, .int .i64 c]) (h2 : RowAt w (some ⟨g2, 0, none⟩) [.int .i64 a, .int .i64 b, .int .i64 c]) :
    Calls Tryd.prog 21 #[.slice (some ⟨g1, 0, none⟩) 1 1, .slice (some ⟨g2, 0, none⟩) 1 1] w fun e w' => e = .returned (.bool true) ∧ Below w.heap.size w w' := by
  have cell : ∀ (g : Nat) (w : World), RowAt w (some ⟨g, 0, none⟩) [.int .i64 a, .int .i64 b, .int .i64 c] → w.cell? ⟨g, 0, none⟩ = some (.int .i64 a) ∧ w.cell? ⟨g, 1, none⟩ = some (.int .i64 b) ∧ w.cell? ⟨g, 2, none⟩ = some (.int .i64 c) := fun g w h => by
    obtain ⟨_, _, e0, k0⟩ := h 0 _ rfl
    obtain ⟨_, _, e1, k1⟩ := h 1 _ rfl
    obtain ⟨_, _, e2, k2⟩ := h 2 _ rfl
    cases e0; cases e1; cases e2
    exact ⟨k0, k1, k2⟩
  obtain ⟨p0, p1, p2⟩ := cell g1 w h1
  obtain ⟨q0, q1, q2⟩ := cell g2 w h2
  have HR := Lib.hid (And.intro h1 h2)
  clear cell h1 h2
  go_enter Tryd.func21, Tryd.ntmps21
  go_wp2_with fail
  go_loopw [13] (fun i wr => (i = .int .i64 0 ∧ wr = w) ∨ (i = .int .i64 1 ∧ Hid (Below w.heap.size w wr))) (fun i _ => 2 - (intOf i).toNat)
  case atStart => exact .inl ⟨rfl, rfl⟩
  case round =>
    rcases hrel with ⟨rfl, rfl⟩ | ⟨rfl, hb⟩
    · go_wp2_with fail
      go_quiet (fail)
      generalize hw9 : World.drewN _ _ = w9
      have HB := Lib.hid (show Below wr.heap.size wr w9 by subst hw9; exact below_drewN (Below.refl _ _) _)
      clear hw9
      go_wp2_with fail
      go_roundw
      case rel => exact .inr ⟨rfl, HB⟩
      case measure => simp [intOf]
    · go_wp2_with fail
      go_ret
      exact ⟨rfl, hb.out⟩
set_option maxHeartbeats 1000000 in
theorem parses_law (s : ByteArray) (w : World) (hs : s.size ≤ maxLen) (hmx : Mx w) :
    Calls Tryd.prog 5 #[.string s] w fun e w' => e = .returned (.bool true) ∧ Below w.heap.size w w' := by
  have hm : s.size ≤ 9223372036854775807 := by simpa [maxLen] using hs
  have hmin : (min (s.size : Int) 600) = ((min s.size 600 : Nat) : Int) := by omega
  have hmt : (min (s.size : Int) 600).toNat = min s.size 600 := by omega
  have HTS := Lib.hid (show (s.extract 0 (min s.size 600)).size ≤ 600 by simp; omega)
  have HM := Lib.hid hmx
  clear hs hmx
  obtain ⟨B, hB⟩ : ∃ B, B = w.heap.size := ⟨_, rfl⟩
  rw [← hB]
  have MX := Lib.hid (fun (w' : World) (hb : Below B w w') => show Mx w' from HM.out.on (by rw [← hB]; exact hb))
  go_enter Tryd.func5, Tryd.ntmps5
  go_wp2_with fail
  refine (awake_any _ HM.out).mono ?_
  rintro e w2 ⟨rfl, hb⟩
  have FB := Lib.hid (show Below B w w2 by rw [hB]; exact hb)
  have HB2 := Lib.hid (show B ≤ w2.heap.size by rw [hB]; exact hb.size)
  clear hb hB
  go_wp2_with fail
  generalize s.extract 0 (min s.size 600) = t at *
  have hts := HTS.out
  refine (parse31_any t _ (by omega) (MX.out _ FB.out)).mono ?_
  rintro e w3 ⟨h1, hb⟩
  have FB3 := Lib.hid (FB.out.trans (hb.mono HB2.out))
  have HB3 := Lib.hid (Nat.le_trans HB2.out hb.size)
  clear hb
  cases hv : parseV t.data.toList with
  | error x =>
    obtain ⟨xn, xc, xk⟩ := x
    rw [hv] at h1
    obtain ⟨g1, rfl, hr1⟩ := h1
    have HR1 := Lib.hid hr1
    unfold strm
    obtain ⟨B3, hB3⟩ : ∃ B3, B3 = w3.heap.size := ⟨_, rfl⟩
    have HV := Lib.hid hv
    clear hv hr1
    go_wp2_with fail
    rw [← hB3]
    generalize hw4 : World.alloc _ _ = w4
    have s4 := Lib.hid (show Held w4 B3 [.int .i64 0, .slice none 0 0] by subst hw4; exact Held.new hB3)
    have FB4 := Lib.hid (show Below B w w4 by subst hw4; exact FB3.out.alloc HB3.out _)
    have g4 := Lib.hid (show Below w3.heap.size w3 w4 by subst hw4; exact below_one _ _)
    have HB4 := Lib.hid (show B ≤ w4.heap.size by have := HB3.out; have := g4.out.size; omega)
    clear hw4 hB3
    refine (parser31_any t _ (by omega)).mono ?_
    rintro e w5 ⟨h2, hb⟩
    rw [HV.out] at h2
    obtain ⟨g2, rfl, hr2⟩ := h2
    have s5 := Lib.hid (s4.out.ext hb)
    have FB5 := Lib.hid (FB4.out.trans (hb.mono HB4.out))
    have HB5 := Lib.hid (Nat.le_trans HB4.out hb.size)
    have K1 := Lib.hid ((RowAt.ext (RowAt.ext HR1.out g4.out) hb))
    have K2 := Lib.hid hr2
    unfold strm
    clear hb hr2 s4 g4 HR1
    have za0 : ∀ o, (w5.alloc o).cell? ⟨B3, 0, none⟩ = some (.int .i64 0) := fun o => (s5.out.alloc o).cell 0
    have za1 : ∀ o, (w5.alloc o).cell? ⟨B3, 1, none⟩ = some (.slice none 0 0) := fun o => (s5.out.alloc o).cell 1
    go_wp2_with fail
    generalize hw6 : World.alloc _ _ = w6
    have g6 := Lib.hid (show Below w5.heap.size w5 w6 by subst hw6; exact below_one _ _)
    have FB6 := Lib.hid (show Below B w w6 by subst hw6; exact FB5.out.alloc HB5.out _)
    have HB6 := Lib.hid (show B ≤ w6.heap.size by have := HB5.out; have := g6.out.size; omega)
    have L1 := Lib.hid (RowAt.ext K1.out g6.out)
    have L2 := Lib.hid (RowAt.ext K2.out g6.out)
    clear hw6 za0 za1 K1 K2 g6
    refine (same_any 0 0 none none 0 0 0 0 [] [] _ (RowAt.nil _ _) (RowAt.nil _ _) rfl rfl).mono ?_
    rintro e w7 ⟨rfl, hb⟩
    simp only [beq_self_eq_true, Bool.and_self]
    have FB7 := Lib.hid (FB6.out.trans (hb.mono HB6.out))
    have HB7 := Lib.hid (Nat.le_trans HB6.out hb.size)
    have M1 := Lib.hid (RowAt.ext L1.out hb)
    have M2 := Lib.hid (RowAt.ext L2.out hb)
    clear hb
    go_wp2_with fail
    refine (diags_one g1 g2 _ _ _ _ M1.out M2.out).mono ?_
    rintro e w8 ⟨rfl, hb⟩
    have FB8 := Lib.hid (FB7.out.trans (hb.mono HB7.out))
    clear hb
    go_wp2_with fail
    go_ret
    exact ⟨rfl, FB8.out⟩
  | ok q =>
    obtain ⟨F, l⟩ := q
    rw [hv] at h1
    obtain ⟨A1, c1, rfl, hr1, -, -⟩ := h1
    have HR1 := Lib.hid hr1
    unfold strm
    obtain ⟨B3, hB3⟩ : ∃ B3, B3 = w3.heap.size := ⟨_, rfl⟩
    have HV := Lib.hid hv
    clear hv hr1
    go_wp2_with fail
    rw [← hB3]
    generalize hw4 : World.alloc _ _ = w4
    have s4 := Lib.hid (show Held w4 B3 [.int .i64 F, .slice A1 (2 * l.length) c1] by subst hw4; exact Held.new hB3)
    have FB4 := Lib.hid (show Below B w w4 by subst hw4; exact FB3.out.alloc HB3.out _)
    have g4 := Lib.hid (show Below w3.heap.size w3 w4 by subst hw4; exact below_one _ _)
    have HB4 := Lib.hid (show B ≤ w4.heap.size by have := HB3.out; have := g4.out.size; omega)
    clear hw4 hB3
    refine (parser31_any t _ (by omega)).mono ?_
    rintro e w5 ⟨h2, hb⟩
    rw [HV.out] at h2
    obtain ⟨A2, c2, rfl, hr2, -, -⟩ := h2
    have s5 := Lib.hid (s4.out.ext hb)
    have FB5 := Lib.hid (FB4.out.trans (hb.mono HB4.out))
    have HB5 := Lib.hid (Nat.le_trans HB4.out hb.size)
    have K1 := Lib.hid ((BytesAt.ext (BytesAt.ext HR1.out g4.out) hb))
    have K2 := Lib.hid hr2
    unfold strm
    clear hb hr2 s4 g4 HR1
    have za0 : ∀ o, (w5.alloc o).cell? ⟨B3, 0, none⟩ = some (.int .i64 F) := fun o => (s5.out.alloc o).cell 0
    have za1 : ∀ o, (w5.alloc o).cell? ⟨B3, 1, none⟩ = some (.slice A1 (2 * l.length) c1) := fun o => (s5.out.alloc o).cell 1
    go_wp2_with fail
    generalize hw6 : World.alloc _ _ = w6
    have g6 := Lib.hid (show Below w5.heap.size w5 w6 by subst hw6; exact below_one _ _)
    have FB6 := Lib.hid (show Below B w w6 by subst hw6; exact FB5.out.alloc HB5.out _)
    have HB6 := Lib.hid (show B ≤ w6.heap.size by have := HB5.out; have := g6.out.size; omega)
    have L1 := Lib.hid (BytesAt.ext K1.out g6.out)
    have L2 := Lib.hid (BytesAt.ext K2.out g6.out)
    clear hw6 za0 za1 K1 K2 g6
    refine (same_any F F A1 A2 (2 * l.length) (2 * l.length) c1 c2 (flat l) (flat l) _ L1.out L2.out (flat_len _).symm (flat_len _).symm).mono ?_
    rintro e w7 ⟨rfl, hb⟩
    simp only [beq_self_eq_true, Bool.and_self]
    have FB7 := Lib.hid (FB6.out.trans (hb.mono HB6.out))
    have HB7 := Lib.hid (Nat.le_trans HB6.out hb.size)
    clear hb
    go_wp2_with fail
    refine (diags_nil _).mono ?_
    rintro e w8 ⟨rfl, hb⟩
    have FB8 := Lib.hid (FB7.out.trans (hb.mono HB7.out))
    clear hb
    go_wp2_with fail
    go_ret
    exact ⟨rfl, FB8.out⟩
end Go.Proofs.YtbliilemjkjimaaDoor
