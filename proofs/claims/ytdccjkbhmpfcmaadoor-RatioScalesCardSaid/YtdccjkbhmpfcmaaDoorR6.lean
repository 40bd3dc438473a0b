/-
  The contracts of Add, Sub, Mul and Div, in the program and in the reference. Their conditions are their hypotheses.
-/
import Derived.Test.YtdccjkbhmpfcmaaDoorR3
import Derived.Test.YtdccjkbhmpfcmaaDoorRs
namespace Go.Proofs.YtdccjkbhmpfcmaaDoor
open Go.RowKit
set_option linter.unusedVariables false
set_option linter.unusedSimpArgs false
theorem Held.two {w : World} {g : Nat} {a b : Value} (h : Held w g [a, b]) : w.cell? ⟨g, 0, none⟩ = some a ∧ w.cell? ⟨g, 1, none⟩ = some b ∧ w.frozen? ⟨g, 0, none⟩ = false ∧ w.frozen? ⟨g, 1, none⟩ = false :=
  ⟨h.cell 0, h.cell 1, h.free 0, h.free 1⟩
def I64 (n : Int) : Prop := -9223372036854775808 ≤ n ∧ n ≤ 9223372036854775807
abbrev rat (n d : Int) : Value := .agg #[.int .i64 n, .int .i64 d]
def addV (an ad bn bd : Int) : (Int × Int) × Int := if validV an ad && validV bn bd then makeV (an * bd + bn * ad) (ad * bd) else ((0, 0), 1)
def subV (an ad bn bd : Int) : (Int × Int) × Int := if validV an ad && validV bn bd then makeV (an * bd - bn * ad) (ad * bd) else ((0, 0), 1)
def mulV (an ad bn bd : Int) : (Int × Int) × Int := if validV an ad && validV bn bd then makeV (an * bn) (ad * bd) else ((0, 0), 1)
def divV (an ad bn bd : Int) : (Int × Int) × Int := if validV an ad && validV bn bd && (bn != 0) then makeV (an * bd) (ad * bn) else ((0, 0), 1)
theorem both_any (an ad bn bd : Int) (w : World) (h1 : I64 an) (h2 : I64 ad) (h3 : I64 bn) (h4 : I64 bd) :
    Calls Tryd.prog 52 #[rat an ad, rat bn bd] w fun e w' => e = .returned (.bool (validV an ad && validV bn bd)) ∧ Below w.heap.size w w' := by
  have H1 := Lib.hid h1
  have H2 := Lib.hid h2
  have H3 := Lib.hid h3
  have H4 := Lib.hid h4
  clear h1 h2 h3 h4
  obtain ⟨B, hB⟩ : ∃ B, B = w.heap.size := ⟨_, rfl⟩
  have HB := Lib.hid hB
  rw [← hB]
  go_enter Tryd.func52, Tryd.ntmps52
  go_wp2_with fail
  rw [← hB]
  generalize hw1 : World.alloc _ _ = w1
  have f1 : Held w1 (B + 1) [.int .i64 bn, .int .i64 bd] := by subst hw1; exact Held.new (by simp [hB])
  have fb : Below B w w1 := by subst hw1; rw [hB]; exact (below_one _ _).alloc (by simp) _
  have fs : w1.heap.size = B + 2 := by subst hw1; simp [hB]
  clear hw1 hB
  refine (valid_any an ad _ H1.out H2.out).mono ?_
  rintro e w2 ⟨rfl, hb2⟩
  obtain ⟨c0, c1, _, _⟩ := (f1.ext hb2).two
  have FB := Lib.hid (fb.trans (hb2.mono (by omega)))
  have fs2 := hb2.size
  clear f1 fb
  cases hv : validV an ad with
  | false =>
    clear hb2
    go_wp2_with fail
    go_ret
    exact ⟨by rw [hv]; rfl, FB.out⟩
  | true =>
    clear hb2
    go_wp2_with fail
    refine (valid_any bn bd _ H3.out H4.out).mono ?_
    rintro e w3 ⟨rfl, hb3⟩
    have FB3 := Lib.hid (FB.out.trans (hb3.mono (by omega)))
    clear hb3
    go_wp2_with fail
    go_ret
    exact ⟨by rw [hv, Bool.true_and]; rfl, FB3.out⟩
theorem add_any (an ad bn bd : Int) (w : World) (h1 : I64 an) (h2 : I64 ad) (h3 : I64 bn) (h4 : I64 bd) :
    Calls Tryd.prog 26 #[rat an ad, rat bn bd] w fun e w' => e = .returned (pairE (addV an ad bn bd)) ∧ Below w.heap.size w w' := by
  have H1 := Lib.hid h1
  have H2 := Lib.hid h2
  have H3 := Lib.hid h3
  have H4 := Lib.hid h4
  clear h1 h2 h3 h4
  obtain ⟨R, hR⟩ : ∃ R, R = addV an ad bn bd := ⟨_, rfl⟩
  have HR := Lib.hid hR
  rw [← hR]
  obtain ⟨B, hB⟩ : ∃ B, B = w.heap.size := ⟨_, rfl⟩
  have HB := Lib.hid hB
  rw [← hB]
  clear hR
  go_enter Tryd.func26, Tryd.ntmps26
  go_wp2_with fail
  rw [← hB]
  generalize hw1 : World.alloc _ _ = w1
  have f0 : Held w1 B [.int .i64 an, .int .i64 ad] := by subst hw1; exact ((Held.new hB).alloc _).alloc _
  have f1 : Held w1 (B + 1) [.int .i64 bn, .int .i64 bd] := by subst hw1; exact (Held.new (by simp [hB])).alloc _
  have f2 : Held w1 (B + 2) [.int .i64 0, .int .i64 0] := by subst hw1; exact Held.new (by simp [hB])
  have fb : Below B w w1 := by subst hw1; rw [hB]; exact ((below_one _ _).alloc (by simp) _).alloc (by simp; omega) _
  have fs : B + 3 ≤ w1.heap.size := by subst hw1; simp [hB]
  clear hw1 hB
  refine (both_any an ad bn bd _ H1.out H2.out H3.out H4.out).mono ?_
  rintro e w2 ⟨rfl, hb⟩
  have f0 := f0.ext hb
  have f1 := f1.ext hb
  have f2 := f2.ext hb
  have fb := fb.trans (hb.mono (by omega))
  have fs := Nat.le_trans fs hb.size
  clear hb
  have F0 := Lib.hid f0
  have F1 := Lib.hid f1
  have F2 := Lib.hid f2
  have FB := Lib.hid fb
  obtain ⟨a0, a1, _, _⟩ := f0.two
  obtain ⟨b0, b1, _, _⟩ := f1.two
  obtain ⟨r0, r1, r2, r3⟩ := f2.two
  clear f0 f1 f2 fb
  cases ha : validV an ad with
  | false =>
    have HR2 := Lib.hid (show R = ((0, 0), 1) by rw [HR.out, addV, if_neg (by simp [ha])])
    clear HR
    go_wp2_with fail
    have r := Lib.hid (((F2.out).set 0 (.int .i64 (0))).set 1 (.int .i64 (0)))
    have rb := Lib.hid ((FB.out.setCell (p := ⟨B + 2, 0, none⟩) (by simp) (.int .i64 (0))).setCell (p := ⟨B + 2, 1, none⟩) (by simp) (.int .i64 (0)))
    generalize World.setCell _ _ _ = w4 at *
    have r0' := r.out.cell 0
    have r1' := r.out.cell 1
    simp only [List.set_cons_zero, List.set_cons_succ, List.getElem?_cons_zero, List.getElem?_cons_succ] at r0' r1'
    refine bodyPost_ret (by simp [results, Tryd.results26, r0', r1', go_sem]; try rfl) rfl ?_
    exact ⟨by first | (rw [HR2.out]; done) | (rw [HR2.out]; rfl), rb.out⟩
  | true =>
    cases hb : validV bn bd with
    | false =>
      have HR2 := Lib.hid (show R = ((0, 0), 1) by rw [HR.out, addV, if_neg (by simp [ha, hb])])
      clear HR
      go_wp2_with fail
      have r := Lib.hid (((F2.out).set 0 (.int .i64 (0))).set 1 (.int .i64 (0)))
      have rb := Lib.hid ((FB.out.setCell (p := ⟨B + 2, 0, none⟩) (by simp) (.int .i64 (0))).setCell (p := ⟨B + 2, 1, none⟩) (by simp) (.int .i64 (0)))
      generalize World.setCell _ _ _ = w4 at *
      have r0' := r.out.cell 0
      have r1' := r.out.cell 1
      simp only [List.set_cons_zero, List.set_cons_succ, List.getElem?_cons_zero, List.getElem?_cons_succ] at r0' r1'
      refine bodyPost_ret (by simp [results, Tryd.results26, r0', r1', go_sem]; try rfl) rfl ?_
      exact ⟨by first | (rw [HR2.out]; done) | (rw [HR2.out]; rfl), rb.out⟩
    | true =>
      have HR2 := Lib.hid (show R = makeV (an * bd + bn * ad) (ad * bd) by rw [HR.out, addV, if_pos (by simp [ha, hb])])
      clear HR
      have av := valid_bd ha
      have bv := valid_bd hb
      have p1 := prod_bd (x := an) (y := bd) (by omega) (by omega) (by omega) (by omega)
      have p2 := prod_bd (x := bn) (y := ad) (by omega) (by omega) (by omega) (by omega)
      have p3 := prod_bd (x := ad) (y := bd) (by omega) (by omega) (by omega) (by omega)
      have p4 := prod_bd (x := an) (y := bn) (by omega) (by omega) (by omega) (by omega)
      have p5 := prod_bd (x := ad) (y := bn) (by omega) (by omega) (by omega) (by omega)
      have p6 := sum_bd ha hb
      obtain ⟨⟨p7, p8⟩, p9, p10⟩ := p6
      clear ha hb av bv
      go_wp2_with fail
      refine (make_any (an * bd + bn * ad) (ad * bd) _ (by omega) (by omega)).mono ?_
      rintro e w4 ⟨rfl, hb⟩
      have f0 := F0.out
      have f1 := F1.out
      have f2 := F2.out
      have fb := FB.out
      clear a0 a1 b0 b1 r0 r1 r2 r3
      have f0 := f0.ext hb
      have f1 := f1.ext hb
      have f2 := f2.ext hb
      have fb := fb.trans (hb.mono (by omega))
      have fs := Nat.le_trans fs hb.size
      clear hb
      have F0 := Lib.hid f0
      have F1 := Lib.hid f1
      have F2 := Lib.hid f2
      have FB := Lib.hid fb
      obtain ⟨a0, a1, _, _⟩ := f0.two
      obtain ⟨b0, b1, _, _⟩ := f1.two
      obtain ⟨r0, r1, r2, r3⟩ := f2.two
      clear f0 f1 f2 fb
      rw [← HR2.out]
      clear HR2 p1 p2 p3 p4 p5 p7 p8 p9 p10
      obtain ⟨⟨P, Q⟩, E⟩ := R
      dsimp only [pairE]
      go_wp2_with fail
      have r := Lib.hid (((F2.out).set 0 (.int .i64 (P))).set 1 (.int .i64 (Q)))
      have rb := Lib.hid ((FB.out.setCell (p := ⟨B + 2, 0, none⟩) (by simp) (.int .i64 (P))).setCell (p := ⟨B + 2, 1, none⟩) (by simp) (.int .i64 (Q)))
      generalize World.setCell _ _ _ = w4 at *
      have r0' := r.out.cell 0
      have r1' := r.out.cell 1
      simp only [List.set_cons_zero, List.set_cons_succ, List.getElem?_cons_zero, List.getElem?_cons_succ] at r0' r1'
      refine bodyPost_ret (by simp [results, Tryd.results26, r0', r1', go_sem]; try rfl) rfl ?_
      exact ⟨by first | (rw [show pairE ((P, Q), E) = _ from rfl]; done) | (rw [show pairE ((P, Q), E) = _ from rfl]; rfl), rb.out⟩
theorem sub_any (an ad bn bd : Int) (w : World) (h1 : I64 an) (h2 : I64 ad) (h3 : I64 bn) (h4 : I64 bd) :
    Calls Tryd.prog 28 #[rat an ad, rat bn bd] w fun e w' => e = .returned (pairE (subV an ad bn bd)) ∧ Below w.heap.size w w' := by
  have H1 := Lib.hid h1
  have H2 := Lib.hid h2
  have H3 := Lib.hid h3
  have H4 := Lib.hid h4
  clear h1 h2 h3 h4
  obtain ⟨R, hR⟩ : ∃ R, R = subV an ad bn bd := ⟨_, rfl⟩
  have HR := Lib.hid hR
  rw [← hR]
  obtain ⟨B, hB⟩ : ∃ B, B = w.heap.size := ⟨_, rfl⟩
  have HB := Lib.hid hB
  rw [← hB]
  clear hR
  go_enter Tryd.func28, Tryd.ntmps28
  go_wp2_with fail
  rw [← hB]
  generalize hw1 : World.alloc _ _ = w1
  have f0 : Held w1 B [.int .i64 an, .int .i64 ad] := by subst hw1; exact ((Held.new hB).alloc _).alloc _
  have f1 : Held w1 (B + 1) [.int .i64 bn, .int .i64 bd] := by subst hw1; exact (Held.new (by simp [hB])).alloc _
  have f2 : Held w1 (B + 2) [.int .i64 0, .int .i64 0] := by subst hw1; exact Held.new (by simp [hB])
  have fb : Below B w w1 := by subst hw1; rw [hB]; exact ((below_one _ _).alloc (by simp) _).alloc (by simp; omega) _
  have fs : B + 3 ≤ w1.heap.size := by subst hw1; simp [hB]
  clear hw1 hB
  refine (both_any an ad bn bd _ H1.out H2.out H3.out H4.out).mono ?_
  rintro e w2 ⟨rfl, hb⟩
  have f0 := f0.ext hb
  have f1 := f1.ext hb
  have f2 := f2.ext hb
  have fb := fb.trans (hb.mono (by omega))
  have fs := Nat.le_trans fs hb.size
  clear hb
  have F0 := Lib.hid f0
  have F1 := Lib.hid f1
  have F2 := Lib.hid f2
  have FB := Lib.hid fb
  obtain ⟨a0, a1, _, _⟩ := f0.two
  obtain ⟨b0, b1, _, _⟩ := f1.two
  obtain ⟨r0, r1, r2, r3⟩ := f2.two
  clear f0 f1 f2 fb
  cases ha : validV an ad with
  | false =>
    have HR2 := Lib.hid (show R = ((0, 0), 1) by rw [HR.out, subV, if_neg (by simp [ha])])
    clear HR
    go_wp2_with fail
    have r := Lib.hid (((F2.out).set 0 (.int .i64 (0))).set 1 (.int .i64 (0)))
    have rb := Lib.hid ((FB.out.setCell (p := ⟨B + 2, 0, none⟩) (by simp) (.int .i64 (0))).setCell (p := ⟨B + 2, 1, none⟩) (by simp) (.int .i64 (0)))
    generalize World.setCell _ _ _ = w4 at *
    have r0' := r.out.cell 0
    have r1' := r.out.cell 1
    simp only [List.set_cons_zero, List.set_cons_succ, List.getElem?_cons_zero, List.getElem?_cons_succ] at r0' r1'
    refine bodyPost_ret (by simp [results, Tryd.results28, r0', r1', go_sem]; try rfl) rfl ?_
    exact ⟨by first | (rw [HR2.out]; done) | (rw [HR2.out]; rfl), rb.out⟩
  | true =>
    cases hb : validV bn bd with
    | false =>
      have HR2 := Lib.hid (show R = ((0, 0), 1) by rw [HR.out, subV, if_neg (by simp [ha, hb])])
      clear HR
      go_wp2_with fail
      have r := Lib.hid (((F2.out).set 0 (.int .i64 (0))).set 1 (.int .i64 (0)))
      have rb := Lib.hid ((FB.out.setCell (p := ⟨B + 2, 0, none⟩) (by simp) (.int .i64 (0))).setCell (p := ⟨B + 2, 1, none⟩) (by simp) (.int .i64 (0)))
      generalize World.setCell _ _ _ = w4 at *
      have r0' := r.out.cell 0
      have r1' := r.out.cell 1
      simp only [List.set_cons_zero, List.set_cons_succ, List.getElem?_cons_zero, List.getElem?_cons_succ] at r0' r1'
      refine bodyPost_ret (by simp [results, Tryd.results28, r0', r1', go_sem]; try rfl) rfl ?_
      exact ⟨by first | (rw [HR2.out]; done) | (rw [HR2.out]; rfl), rb.out⟩
    | true =>
      have HR2 := Lib.hid (show R = makeV (an * bd - bn * ad) (ad * bd) by rw [HR.out, subV, if_pos (by simp [ha, hb])])
      clear HR
      have av := valid_bd ha
      have bv := valid_bd hb
      have p1 := prod_bd (x := an) (y := bd) (by omega) (by omega) (by omega) (by omega)
      have p2 := prod_bd (x := bn) (y := ad) (by omega) (by omega) (by omega) (by omega)
      have p3 := prod_bd (x := ad) (y := bd) (by omega) (by omega) (by omega) (by omega)
      have p4 := prod_bd (x := an) (y := bn) (by omega) (by omega) (by omega) (by omega)
      have p5 := prod_bd (x := ad) (y := bn) (by omega) (by omega) (by omega) (by omega)
      have p6 := sum_bd ha hb
      obtain ⟨⟨p7, p8⟩, p9, p10⟩ := p6
      clear ha hb av bv
      go_wp2_with fail
      refine (make_any (an * bd - bn * ad) (ad * bd) _ (by omega) (by omega)).mono ?_
      rintro e w4 ⟨rfl, hb⟩
      have f0 := F0.out
      have f1 := F1.out
      have f2 := F2.out
      have fb := FB.out
      clear a0 a1 b0 b1 r0 r1 r2 r3
      have f0 := f0.ext hb
      have f1 := f1.ext hb
      have f2 := f2.ext hb
      have fb := fb.trans (hb.mono (by omega))
      have fs := Nat.le_trans fs hb.size
      clear hb
      have F0 := Lib.hid f0
      have F1 := Lib.hid f1
      have F2 := Lib.hid f2
      have FB := Lib.hid fb
      obtain ⟨a0, a1, _, _⟩ := f0.two
      obtain ⟨b0, b1, _, _⟩ := f1.two
      obtain ⟨r0, r1, r2, r3⟩ := f2.two
      clear f0 f1 f2 fb
      rw [← HR2.out]
      clear HR2 p1 p2 p3 p4 p5 p7 p8 p9 p10
      obtain ⟨⟨P, Q⟩, E⟩ := R
      dsimp only [pairE]
      go_wp2_with fail
      have r := Lib.hid (((F2.out).set 0 (.int .i64 (P))).set 1 (.int .i64 (Q)))
      have rb := Lib.hid ((FB.out.setCell (p := ⟨B + 2, 0, none⟩) (by simp) (.int .i64 (P))).setCell (p := ⟨B + 2, 1, none⟩) (by simp) (.int .i64 (Q)))
      generalize World.setCell _ _ _ = w4 at *
      have r0' := r.out.cell 0
      have r1' := r.out.cell 1
      simp only [List.set_cons_zero, List.set_cons_succ, List.getElem?_cons_zero, List.getElem?_cons_succ] at r0' r1'
      refine bodyPost_ret (by simp [results, Tryd.results28, r0', r1', go_sem]; try rfl) rfl ?_
      exact ⟨by first | (rw [show pairE ((P, Q), E) = _ from rfl]; done) | (rw [show pairE ((P, Q), E) = _ from rfl]; rfl), rb.out⟩
theorem mul_any (an ad bn bd : Int) (w : World) (h1 : I64 an) (h2 : I64 ad) (h3 : I64 bn) (h4 : I64 bd) :
    Calls Tryd.prog 30 #[rat an ad, rat bn bd] w fun e w' => e = .returned (pairE (mulV an ad bn bd)) ∧ Below w.heap.size w w' := by
  have H1 := Lib.hid h1
  have H2 := Lib.hid h2
  have H3 := Lib.hid h3
  have H4 := Lib.hid h4
  clear h1 h2 h3 h4
  obtain ⟨R, hR⟩ : ∃ R, R = mulV an ad bn bd := ⟨_, rfl⟩
  have HR := Lib.hid hR
  rw [← hR]
  obtain ⟨B, hB⟩ : ∃ B, B = w.heap.size := ⟨_, rfl⟩
  have HB := Lib.hid hB
  rw [← hB]
  clear hR
  go_enter Tryd.func30, Tryd.ntmps30
  go_wp2_with fail
  rw [← hB]
  generalize hw1 : World.alloc _ _ = w1
  have f0 : Held w1 B [.int .i64 an, .int .i64 ad] := by subst hw1; exact ((Held.new hB).alloc _).alloc _
  have f1 : Held w1 (B + 1) [.int .i64 bn, .int .i64 bd] := by subst hw1; exact (Held.new (by simp [hB])).alloc _
  have f2 : Held w1 (B + 2) [.int .i64 0, .int .i64 0] := by subst hw1; exact Held.new (by simp [hB])
  have fb : Below B w w1 := by subst hw1; rw [hB]; exact ((below_one _ _).alloc (by simp) _).alloc (by simp; omega) _
  have fs : B + 3 ≤ w1.heap.size := by subst hw1; simp [hB]
  clear hw1 hB
  refine (both_any an ad bn bd _ H1.out H2.out H3.out H4.out).mono ?_
  rintro e w2 ⟨rfl, hb⟩
  have f0 := f0.ext hb
  have f1 := f1.ext hb
  have f2 := f2.ext hb
  have fb := fb.trans (hb.mono (by omega))
  have fs := Nat.le_trans fs hb.size
  clear hb
  have F0 := Lib.hid f0
  have F1 := Lib.hid f1
  have F2 := Lib.hid f2
  have FB := Lib.hid fb
  obtain ⟨a0, a1, _, _⟩ := f0.two
  obtain ⟨b0, b1, _, _⟩ := f1.two
  obtain ⟨r0, r1, r2, r3⟩ := f2.two
  clear f0 f1 f2 fb
  cases ha : validV an ad with
  | false =>
    have HR2 := Lib.hid (show R = ((0, 0), 1) by rw [HR.out, mulV, if_neg (by simp [ha])])
    clear HR
    go_wp2_with fail
    have r := Lib.hid (((F2.out).set 0 (.int .i64 (0))).set 1 (.int .i64 (0)))
    have rb := Lib.hid ((FB.out.setCell (p := ⟨B + 2, 0, none⟩) (by simp) (.int .i64 (0))).setCell (p := ⟨B + 2, 1, none⟩) (by simp) (.int .i64 (0)))
    generalize World.setCell _ _ _ = w4 at *
    have r0' := r.out.cell 0
    have r1' := r.out.cell 1
    simp only [List.set_cons_zero, List.set_cons_succ, List.getElem?_cons_zero, List.getElem?_cons_succ] at r0' r1'
    refine bodyPost_ret (by simp [results, Tryd.results30, r0', r1', go_sem]; try rfl) rfl ?_
    exact ⟨by first | (rw [HR2.out]; done) | (rw [HR2.out]; rfl), rb.out⟩
  | true =>
    cases hb : validV bn bd with
    | false =>
      have HR2 := Lib.hid (show R = ((0, 0), 1) by rw [HR.out, mulV, if_neg (by simp [ha, hb])])
      clear HR
      go_wp2_with fail
      have r := Lib.hid (((F2.out).set 0 (.int .i64 (0))).set 1 (.int .i64 (0)))
      have rb := Lib.hid ((FB.out.setCell (p := ⟨B + 2, 0, none⟩) (by simp) (.int .i64 (0))).setCell (p := ⟨B + 2, 1, none⟩) (by simp) (.int .i64 (0)))
      generalize World.setCell _ _ _ = w4 at *
      have r0' := r.out.cell 0
      have r1' := r.out.cell 1
      simp only [List.set_cons_zero, List.set_cons_succ, List.getElem?_cons_zero, List.getElem?_cons_succ] at r0' r1'
      refine bodyPost_ret (by simp [results, Tryd.results30, r0', r1', go_sem]; try rfl) rfl ?_
      exact ⟨by first | (rw [HR2.out]; done) | (rw [HR2.out]; rfl), rb.out⟩
    | true =>
      have HR2 := Lib.hid (show R = makeV (an * bn) (ad * bd) by rw [HR.out, mulV, if_pos (by simp [ha, hb])])
      clear HR
      have av := valid_bd ha
      have bv := valid_bd hb
      have p1 := prod_bd (x := an) (y := bd) (by omega) (by omega) (by omega) (by omega)
      have p2 := prod_bd (x := bn) (y := ad) (by omega) (by omega) (by omega) (by omega)
      have p3 := prod_bd (x := ad) (y := bd) (by omega) (by omega) (by omega) (by omega)
      have p4 := prod_bd (x := an) (y := bn) (by omega) (by omega) (by omega) (by omega)
      have p5 := prod_bd (x := ad) (y := bn) (by omega) (by omega) (by omega) (by omega)
      have p6 := sum_bd ha hb
      obtain ⟨⟨p7, p8⟩, p9, p10⟩ := p6
      clear ha hb av bv
      go_wp2_with fail
      refine (make_any (an * bn) (ad * bd) _ (by omega) (by omega)).mono ?_
      rintro e w4 ⟨rfl, hb⟩
      have f0 := F0.out
      have f1 := F1.out
      have f2 := F2.out
      have fb := FB.out
      clear a0 a1 b0 b1 r0 r1 r2 r3
      have f0 := f0.ext hb
      have f1 := f1.ext hb
      have f2 := f2.ext hb
      have fb := fb.trans (hb.mono (by omega))
      have fs := Nat.le_trans fs hb.size
      clear hb
      have F0 := Lib.hid f0
      have F1 := Lib.hid f1
      have F2 := Lib.hid f2
      have FB := Lib.hid fb
      obtain ⟨a0, a1, _, _⟩ := f0.two
      obtain ⟨b0, b1, _, _⟩ := f1.two
      obtain ⟨r0, r1, r2, r3⟩ := f2.two
      clear f0 f1 f2 fb
      rw [← HR2.out]
      clear HR2 p1 p2 p3 p4 p5 p7 p8 p9 p10
      obtain ⟨⟨P, Q⟩, E⟩ := R
      dsimp only [pairE]
      go_wp2_with fail
      have r := Lib.hid (((F2.out).set 0 (.int .i64 (P))).set 1 (.int .i64 (Q)))
      have rb := Lib.hid ((FB.out.setCell (p := ⟨B + 2, 0, none⟩) (by simp) (.int .i64 (P))).setCell (p := ⟨B + 2, 1, none⟩) (by simp) (.int .i64 (Q)))
      generalize World.setCell _ _ _ = w4 at *
      have r0' := r.out.cell 0
      have r1' := r.out.cell 1
      simp only [List.set_cons_zero, List.set_cons_succ, List.getElem?_cons_zero, List.getElem?_cons_succ] at r0' r1'
      refine bodyPost_ret (by simp [results, Tryd.results30, r0', r1', go_sem]; try rfl) rfl ?_
      exact ⟨by first | (rw [show pairE ((P, Q), E) = _ from rfl]; done) | (rw [show pairE ((P, Q), E) = _ from rfl]; rfl), rb.out⟩
theorem div_any (an ad bn bd : Int) (w : World) (h1 : I64 an) (h2 : I64 ad) (h3 : I64 bn) (h4 : I64 bd) :
    Calls Tryd.prog 32 #[rat an ad, rat bn bd] w fun e w' => e = .returned (pairE (divV an ad bn bd)) ∧ Below w.heap.size w w' := by
  have H1 := Lib.hid h1
  have H2 := Lib.hid h2
  have H3 := Lib.hid h3
  have H4 := Lib.hid h4
  clear h1 h2 h3 h4
  obtain ⟨R, hR⟩ : ∃ R, R = divV an ad bn bd := ⟨_, rfl⟩
  have HR := Lib.hid hR
  rw [← hR]
  obtain ⟨B, hB⟩ : ∃ B, B = w.heap.size := ⟨_, rfl⟩
  have HB := Lib.hid hB
  rw [← hB]
  clear hR
  go_enter Tryd.func32, Tryd.ntmps32
  go_wp2_with fail
  rw [← hB]
  generalize hw1 : World.alloc _ _ = w1
  have f0 : Held w1 B [.int .i64 an, .int .i64 ad] := by subst hw1; exact ((Held.new hB).alloc _).alloc _
  have f1 : Held w1 (B + 1) [.int .i64 bn, .int .i64 bd] := by subst hw1; exact (Held.new (by simp [hB])).alloc _
  have f2 : Held w1 (B + 2) [.int .i64 0, .int .i64 0] := by subst hw1; exact Held.new (by simp [hB])
  have fb : Below B w w1 := by subst hw1; rw [hB]; exact ((below_one _ _).alloc (by simp) _).alloc (by simp; omega) _
  have fs : B + 3 ≤ w1.heap.size := by subst hw1; simp [hB]
  clear hw1 hB
  refine (both_any an ad bn bd _ H1.out H2.out H3.out H4.out).mono ?_
  rintro e w2 ⟨rfl, hb⟩
  have f0 := f0.ext hb
  have f1 := f1.ext hb
  have f2 := f2.ext hb
  have fb := fb.trans (hb.mono (by omega))
  have fs := Nat.le_trans fs hb.size
  clear hb
  have F0 := Lib.hid f0
  have F1 := Lib.hid f1
  have F2 := Lib.hid f2
  have FB := Lib.hid fb
  obtain ⟨a0, a1, _, _⟩ := f0.two
  obtain ⟨b0, b1, _, _⟩ := f1.two
  obtain ⟨r0, r1, r2, r3⟩ := f2.two
  clear f0 f1 f2 fb
  cases ha : validV an ad with
  | false =>
    have HR2 := Lib.hid (show R = ((0, 0), 1) by rw [HR.out, divV, if_neg (by simp [ha])])
    clear HR
    go_wp2_with fail
    have r := Lib.hid (((F2.out).set 0 (.int .i64 (0))).set 1 (.int .i64 (0)))
    have rb := Lib.hid ((FB.out.setCell (p := ⟨B + 2, 0, none⟩) (by simp) (.int .i64 (0))).setCell (p := ⟨B + 2, 1, none⟩) (by simp) (.int .i64 (0)))
    generalize World.setCell _ _ _ = w4 at *
    have r0' := r.out.cell 0
    have r1' := r.out.cell 1
    simp only [List.set_cons_zero, List.set_cons_succ, List.getElem?_cons_zero, List.getElem?_cons_succ] at r0' r1'
    refine bodyPost_ret (by simp [results, Tryd.results32, r0', r1', go_sem]; try rfl) rfl ?_
    exact ⟨by first | (rw [HR2.out]; done) | (rw [HR2.out]; rfl), rb.out⟩
  | true =>
    cases hb : validV bn bd with
    | false =>
      have HR2 := Lib.hid (show R = ((0, 0), 1) by rw [HR.out, divV, if_neg (by simp [ha, hb])])
      clear HR
      go_wp2_with fail
      have r := Lib.hid (((F2.out).set 0 (.int .i64 (0))).set 1 (.int .i64 (0)))
      have rb := Lib.hid ((FB.out.setCell (p := ⟨B + 2, 0, none⟩) (by simp) (.int .i64 (0))).setCell (p := ⟨B + 2, 1, none⟩) (by simp) (.int .i64 (0)))
      generalize World.setCell _ _ _ = w4 at *
      have r0' := r.out.cell 0
      have r1' := r.out.cell 1
      simp only [List.set_cons_zero, List.set_cons_succ, List.getElem?_cons_zero, List.getElem?_cons_succ] at r0' r1'
      refine bodyPost_ret (by simp [results, Tryd.results32, r0', r1', go_sem]; try rfl) rfl ?_
      exact ⟨by first | (rw [HR2.out]; done) | (rw [HR2.out]; rfl), rb.out⟩
    | true =>
      cases h0 : (bn == 0) with
      | true =>
        have HR2 := Lib.hid (show R = ((0, 0), 1) by rw [HR.out, divV, if_neg (by simp [ha, hb, bne, h0])])
        clear HR
        go_wp2_with fail
        have r := Lib.hid (((F2.out).set 0 (.int .i64 (0))).set 1 (.int .i64 (0)))
        have rb := Lib.hid ((FB.out.setCell (p := ⟨B + 2, 0, none⟩) (by simp) (.int .i64 (0))).setCell (p := ⟨B + 2, 1, none⟩) (by simp) (.int .i64 (0)))
        generalize World.setCell _ _ _ = w4 at *
        have r0' := r.out.cell 0
        have r1' := r.out.cell 1
        simp only [List.set_cons_zero, List.set_cons_succ, List.getElem?_cons_zero, List.getElem?_cons_succ] at r0' r1'
        refine bodyPost_ret (by simp [results, Tryd.results32, r0', r1', go_sem]; try rfl) rfl ?_
        exact ⟨by first | (rw [HR2.out]; done) | (rw [HR2.out]; rfl), rb.out⟩
      | false =>
        have h0b : (bn != 0) = true := by simp [bne, h0]
        have HR2 := Lib.hid (show R = makeV (an * bd) (ad * bn) by rw [HR.out, divV, if_pos (by simp [ha, hb, bne, h0])])
        clear HR
        have av := valid_bd ha
        have bv := valid_bd hb
        have p1 := prod_bd (x := an) (y := bd) (by omega) (by omega) (by omega) (by omega)
        have p2 := prod_bd (x := bn) (y := ad) (by omega) (by omega) (by omega) (by omega)
        have p3 := prod_bd (x := ad) (y := bd) (by omega) (by omega) (by omega) (by omega)
        have p4 := prod_bd (x := an) (y := bn) (by omega) (by omega) (by omega) (by omega)
        have p5 := prod_bd (x := ad) (y := bn) (by omega) (by omega) (by omega) (by omega)
        have p6 := sum_bd ha hb
        obtain ⟨⟨p7, p8⟩, p9, p10⟩ := p6
        clear ha hb av bv
        go_wp2_with fail
        refine (make_any (an * bd) (ad * bn) _ (by omega) (by omega)).mono ?_
        rintro e w4 ⟨rfl, hb⟩
        have f0 := F0.out
        have f1 := F1.out
        have f2 := F2.out
        have fb := FB.out
        clear a0 a1 b0 b1 r0 r1 r2 r3
        have f0 := f0.ext hb
        have f1 := f1.ext hb
        have f2 := f2.ext hb
        have fb := fb.trans (hb.mono (by omega))
        have fs := Nat.le_trans fs hb.size
        clear hb
        have F0 := Lib.hid f0
        have F1 := Lib.hid f1
        have F2 := Lib.hid f2
        have FB := Lib.hid fb
        obtain ⟨a0, a1, _, _⟩ := f0.two
        obtain ⟨b0, b1, _, _⟩ := f1.two
        obtain ⟨r0, r1, r2, r3⟩ := f2.two
        clear f0 f1 f2 fb
        rw [← HR2.out]
        clear HR2 p1 p2 p3 p4 p5 p7 p8 p9 p10
        obtain ⟨⟨P, Q⟩, E⟩ := R
        dsimp only [pairE]
        go_wp2_with fail
        have r := Lib.hid (((F2.out).set 0 (.int .i64 (P))).set 1 (.int .i64 (Q)))
        have rb := Lib.hid ((FB.out.setCell (p := ⟨B + 2, 0, none⟩) (by simp) (.int .i64 (P))).setCell (p := ⟨B + 2, 1, none⟩) (by simp) (.int .i64 (Q)))
        generalize World.setCell _ _ _ = w4 at *
        have r0' := r.out.cell 0
        have r1' := r.out.cell 1
        simp only [List.set_cons_zero, List.set_cons_succ, List.getElem?_cons_zero, List.getElem?_cons_succ] at r0' r1'
        refine bodyPost_ret (by simp [results, Tryd.results32, r0', r1', go_sem]; try rfl) rfl ?_
        exact ⟨by first | (rw [show pairE ((P, Q), E) = _ from rfl]; done) | (rw [show pairE ((P, Q), E) = _ from rfl]; rfl), rb.out⟩
theorem addr_any (an ad bn bd : Int) (w : World) (h1 : I64 an) (h2 : I64 ad) (h3 : I64 bn) (h4 : I64 bd) :
    Calls Tryd.prog 27 #[rat an ad, rat bn bd] w fun e w' => e = .returned (pairE (addV an ad bn bd)) ∧ Below w.heap.size w w' := by
  have H1 := Lib.hid h1
  have H2 := Lib.hid h2
  have H3 := Lib.hid h3
  have H4 := Lib.hid h4
  clear h1 h2 h3 h4
  obtain ⟨R, hR⟩ : ∃ R, R = addV an ad bn bd := ⟨_, rfl⟩
  have HR := Lib.hid hR
  rw [← hR]
  obtain ⟨B, hB⟩ : ∃ B, B = w.heap.size := ⟨_, rfl⟩
  have HB := Lib.hid hB
  rw [← hB]
  clear hR
  go_enter Tryd.func27, Tryd.ntmps27
  go_wp2_with fail
  rw [← hB]
  generalize hw1 : World.alloc _ _ = w1
  have f0 : Held w1 B [.int .i64 an, .int .i64 ad] := by subst hw1; exact ((Held.new hB).alloc _).alloc _
  have f1 : Held w1 (B + 1) [.int .i64 bn, .int .i64 bd] := by subst hw1; exact (Held.new (by simp [hB])).alloc _
  have f2 : Held w1 (B + 2) [.int .i64 0, .int .i64 0] := by subst hw1; exact Held.new (by simp [hB])
  have fb : Below B w w1 := by subst hw1; rw [hB]; exact ((below_one _ _).alloc (by simp) _).alloc (by simp; omega) _
  have fs : B + 3 ≤ w1.heap.size := by subst hw1; simp [hB]
  clear hw1 hB
  refine (validr_any an ad _ H1.out H2.out).mono ?_
  rintro e w2 ⟨rfl, hb⟩
  have f0 := f0.ext hb
  have f1 := f1.ext hb
  have f2 := f2.ext hb
  have fb := fb.trans (hb.mono (by omega))
  have fs := Nat.le_trans fs hb.size
  clear hb
  have F0 := Lib.hid f0
  have F1 := Lib.hid f1
  have F2 := Lib.hid f2
  have FB := Lib.hid fb
  obtain ⟨a0, a1, _, _⟩ := f0.two
  obtain ⟨b0, b1, _, _⟩ := f1.two
  obtain ⟨r0, r1, r2, r3⟩ := f2.two
  clear f0 f1 f2 fb
  cases ha : validV an ad with
  | false =>
    have HR2 := Lib.hid (show R = ((0, 0), 1) by rw [HR.out, addV, if_neg (by simp [ha])])
    clear HR
    go_wp2_with fail
    have r := Lib.hid (((F2.out).set 0 (.int .i64 (0))).set 1 (.int .i64 (0)))
    have rb := Lib.hid ((FB.out.setCell (p := ⟨B + 2, 0, none⟩) (by simp) (.int .i64 (0))).setCell (p := ⟨B + 2, 1, none⟩) (by simp) (.int .i64 (0)))
    generalize World.setCell _ _ _ = w4 at *
    have r0' := r.out.cell 0
    have r1' := r.out.cell 1
    simp only [List.set_cons_zero, List.set_cons_succ, List.getElem?_cons_zero, List.getElem?_cons_succ] at r0' r1'
    refine bodyPost_ret (by simp [results, Tryd.results27, r0', r1', go_sem]; try rfl) rfl ?_
    exact ⟨by first | (rw [HR2.out]; done) | (rw [HR2.out]; rfl), rb.out⟩
  | true =>
    go_wp2_with fail
    refine (validr_any bn bd _ H3.out H4.out).mono ?_
    rintro e w3 ⟨rfl, hb⟩
    have f0 := F0.out
    have f1 := F1.out
    have f2 := F2.out
    have fb := FB.out
    clear a0 a1 b0 b1 r0 r1 r2 r3
    have f0 := f0.ext hb
    have f1 := f1.ext hb
    have f2 := f2.ext hb
    have fb := fb.trans (hb.mono (by omega))
    have fs := Nat.le_trans fs hb.size
    clear hb
    have F0 := Lib.hid f0
    have F1 := Lib.hid f1
    have F2 := Lib.hid f2
    have FB := Lib.hid fb
    obtain ⟨a0, a1, _, _⟩ := f0.two
    obtain ⟨b0, b1, _, _⟩ := f1.two
    obtain ⟨r0, r1, r2, r3⟩ := f2.two
    clear f0 f1 f2 fb
    cases hb : validV bn bd with
    | false =>
      have HR2 := Lib.hid (show R = ((0, 0), 1) by rw [HR.out, addV, if_neg (by simp [ha, hb])])
      clear HR
      go_wp2_with fail
      have r := Lib.hid (((F2.out).set 0 (.int .i64 (0))).set 1 (.int .i64 (0)))
      have rb := Lib.hid ((FB.out.setCell (p := ⟨B + 2, 0, none⟩) (by simp) (.int .i64 (0))).setCell (p := ⟨B + 2, 1, none⟩) (by simp) (.int .i64 (0)))
      generalize World.setCell _ _ _ = w4 at *
      have r0' := r.out.cell 0
      have r1' := r.out.cell 1
      simp only [List.set_cons_zero, List.set_cons_succ, List.getElem?_cons_zero, List.getElem?_cons_succ] at r0' r1'
      refine bodyPost_ret (by simp [results, Tryd.results27, r0', r1', go_sem]; try rfl) rfl ?_
      exact ⟨by first | (rw [HR2.out]; done) | (rw [HR2.out]; rfl), rb.out⟩
    | true =>
      have HR2 := Lib.hid (show R = makeV (an * bd + bn * ad) (ad * bd) by rw [HR.out, addV, if_pos (by simp [ha, hb])])
      clear HR
      have av := valid_bd ha
      have bv := valid_bd hb
      have p1 := prod_bd (x := an) (y := bd) (by omega) (by omega) (by omega) (by omega)
      have p2 := prod_bd (x := bn) (y := ad) (by omega) (by omega) (by omega) (by omega)
      have p3 := prod_bd (x := ad) (y := bd) (by omega) (by omega) (by omega) (by omega)
      have p4 := prod_bd (x := an) (y := bn) (by omega) (by omega) (by omega) (by omega)
      have p5 := prod_bd (x := ad) (y := bn) (by omega) (by omega) (by omega) (by omega)
      have p6 := sum_bd ha hb
      obtain ⟨⟨p7, p8⟩, p9, p10⟩ := p6
      clear ha hb av bv
      go_wp2_with fail
      refine (maker_any (an * bd + bn * ad) (ad * bd) _ (by omega) (by omega)).mono ?_
      rintro e w4 ⟨rfl, hb⟩
      have f0 := F0.out
      have f1 := F1.out
      have f2 := F2.out
      have fb := FB.out
      clear a0 a1 b0 b1 r0 r1 r2 r3
      have f0 := f0.ext hb
      have f1 := f1.ext hb
      have f2 := f2.ext hb
      have fb := fb.trans (hb.mono (by omega))
      have fs := Nat.le_trans fs hb.size
      clear hb
      have F0 := Lib.hid f0
      have F1 := Lib.hid f1
      have F2 := Lib.hid f2
      have FB := Lib.hid fb
      obtain ⟨a0, a1, _, _⟩ := f0.two
      obtain ⟨b0, b1, _, _⟩ := f1.two
      obtain ⟨r0, r1, r2, r3⟩ := f2.two
      clear f0 f1 f2 fb
      rw [← HR2.out]
      clear HR2 p1 p2 p3 p4 p5 p7 p8 p9 p10
      obtain ⟨⟨P, Q⟩, E⟩ := R
      dsimp only [pairE]
      go_wp2_with fail
      have r := Lib.hid (((F2.out).set 0 (.int .i64 (P))).set 1 (.int .i64 (Q)))
      have rb := Lib.hid ((FB.out.setCell (p := ⟨B + 2, 0, none⟩) (by simp) (.int .i64 (P))).setCell (p := ⟨B + 2, 1, none⟩) (by simp) (.int .i64 (Q)))
      generalize World.setCell _ _ _ = w4 at *
      have r0' := r.out.cell 0
      have r1' := r.out.cell 1
      simp only [List.set_cons_zero, List.set_cons_succ, List.getElem?_cons_zero, List.getElem?_cons_succ] at r0' r1'
      refine bodyPost_ret (by simp [results, Tryd.results27, r0', r1', go_sem]; try rfl) rfl ?_
      exact ⟨by first | (rw [show pairE ((P, Q), E) = _ from rfl]; done) | (rw [show pairE ((P, Q), E) = _ from rfl]; rfl), rb.out⟩
theorem mulr_any (an ad bn bd : Int) (w : World) (h1 : I64 an) (h2 : I64 ad) (h3 : I64 bn) (h4 : I64 bd) :
    Calls Tryd.prog 31 #[rat an ad, rat bn bd] w fun e w' => e = .returned (pairE (mulV an ad bn bd)) ∧ Below w.heap.size w w' := by
  have H1 := Lib.hid h1
  have H2 := Lib.hid h2
  have H3 := Lib.hid h3
  have H4 := Lib.hid h4
  clear h1 h2 h3 h4
  obtain ⟨R, hR⟩ : ∃ R, R = mulV an ad bn bd := ⟨_, rfl⟩
  have HR := Lib.hid hR
  rw [← hR]
  obtain ⟨B, hB⟩ : ∃ B, B = w.heap.size := ⟨_, rfl⟩
  have HB := Lib.hid hB
  rw [← hB]
  clear hR
  go_enter Tryd.func31, Tryd.ntmps31
  go_wp2_with fail
  rw [← hB]
  generalize hw1 : World.alloc _ _ = w1
  have f0 : Held w1 B [.int .i64 an, .int .i64 ad] := by subst hw1; exact ((Held.new hB).alloc _).alloc _
  have f1 : Held w1 (B + 1) [.int .i64 bn, .int .i64 bd] := by subst hw1; exact (Held.new (by simp [hB])).alloc _
  have f2 : Held w1 (B + 2) [.int .i64 0, .int .i64 0] := by subst hw1; exact Held.new (by simp [hB])
  have fb : Below B w w1 := by subst hw1; rw [hB]; exact ((below_one _ _).alloc (by simp) _).alloc (by simp; omega) _
  have fs : B + 3 ≤ w1.heap.size := by subst hw1; simp [hB]
  clear hw1 hB
  refine (validr_any an ad _ H1.out H2.out).mono ?_
  rintro e w2 ⟨rfl, hb⟩
  have f0 := f0.ext hb
  have f1 := f1.ext hb
  have f2 := f2.ext hb
  have fb := fb.trans (hb.mono (by omega))
  have fs := Nat.le_trans fs hb.size
  clear hb
  have F0 := Lib.hid f0
  have F1 := Lib.hid f1
  have F2 := Lib.hid f2
  have FB := Lib.hid fb
  obtain ⟨a0, a1, _, _⟩ := f0.two
  obtain ⟨b0, b1, _, _⟩ := f1.two
  obtain ⟨r0, r1, r2, r3⟩ := f2.two
  clear f0 f1 f2 fb
  cases ha : validV an ad with
  | false =>
    have HR2 := Lib.hid (show R = ((0, 0), 1) by rw [HR.out, mulV, if_neg (by simp [ha])])
    clear HR
    go_wp2_with fail
    have r := Lib.hid (((F2.out).set 0 (.int .i64 (0))).set 1 (.int .i64 (0)))
    have rb := Lib.hid ((FB.out.setCell (p := ⟨B + 2, 0, none⟩) (by simp) (.int .i64 (0))).setCell (p := ⟨B + 2, 1, none⟩) (by simp) (.int .i64 (0)))
    generalize World.setCell _ _ _ = w4 at *
    have r0' := r.out.cell 0
    have r1' := r.out.cell 1
    simp only [List.set_cons_zero, List.set_cons_succ, List.getElem?_cons_zero, List.getElem?_cons_succ] at r0' r1'
    refine bodyPost_ret (by simp [results, Tryd.results31, r0', r1', go_sem]; try rfl) rfl ?_
    exact ⟨by first | (rw [HR2.out]; done) | (rw [HR2.out]; rfl), rb.out⟩
  | true =>
    go_wp2_with fail
    refine (validr_any bn bd _ H3.out H4.out).mono ?_
    rintro e w3 ⟨rfl, hb⟩
    have f0 := F0.out
    have f1 := F1.out
    have f2 := F2.out
    have fb := FB.out
    clear a0 a1 b0 b1 r0 r1 r2 r3
    have f0 := f0.ext hb
    have f1 := f1.ext hb
    have f2 := f2.ext hb
    have fb := fb.trans (hb.mono (by omega))
    have fs := Nat.le_trans fs hb.size
    clear hb
    have F0 := Lib.hid f0
    have F1 := Lib.hid f1
    have F2 := Lib.hid f2
    have FB := Lib.hid fb
    obtain ⟨a0, a1, _, _⟩ := f0.two
    obtain ⟨b0, b1, _, _⟩ := f1.two
    obtain ⟨r0, r1, r2, r3⟩ := f2.two
    clear f0 f1 f2 fb
    cases hb : validV bn bd with
    | false =>
      have HR2 := Lib.hid (show R = ((0, 0), 1) by rw [HR.out, mulV, if_neg (by simp [ha, hb])])
      clear HR
      go_wp2_with fail
      have r := Lib.hid (((F2.out).set 0 (.int .i64 (0))).set 1 (.int .i64 (0)))
      have rb := Lib.hid ((FB.out.setCell (p := ⟨B + 2, 0, none⟩) (by simp) (.int .i64 (0))).setCell (p := ⟨B + 2, 1, none⟩) (by simp) (.int .i64 (0)))
      generalize World.setCell _ _ _ = w4 at *
      have r0' := r.out.cell 0
      have r1' := r.out.cell 1
      simp only [List.set_cons_zero, List.set_cons_succ, List.getElem?_cons_zero, List.getElem?_cons_succ] at r0' r1'
      refine bodyPost_ret (by simp [results, Tryd.results31, r0', r1', go_sem]; try rfl) rfl ?_
      exact ⟨by first | (rw [HR2.out]; done) | (rw [HR2.out]; rfl), rb.out⟩
    | true =>
      have HR2 := Lib.hid (show R = makeV (an * bn) (ad * bd) by rw [HR.out, mulV, if_pos (by simp [ha, hb])])
      clear HR
      have av := valid_bd ha
      have bv := valid_bd hb
      have p1 := prod_bd (x := an) (y := bd) (by omega) (by omega) (by omega) (by omega)
      have p2 := prod_bd (x := bn) (y := ad) (by omega) (by omega) (by omega) (by omega)
      have p3 := prod_bd (x := ad) (y := bd) (by omega) (by omega) (by omega) (by omega)
      have p4 := prod_bd (x := an) (y := bn) (by omega) (by omega) (by omega) (by omega)
      have p5 := prod_bd (x := ad) (y := bn) (by omega) (by omega) (by omega) (by omega)
      have p6 := sum_bd ha hb
      obtain ⟨⟨p7, p8⟩, p9, p10⟩ := p6
      clear ha hb av bv
      go_wp2_with fail
      refine (maker_any (an * bn) (ad * bd) _ (by omega) (by omega)).mono ?_
      rintro e w4 ⟨rfl, hb⟩
      have f0 := F0.out
      have f1 := F1.out
      have f2 := F2.out
      have fb := FB.out
      clear a0 a1 b0 b1 r0 r1 r2 r3
      have f0 := f0.ext hb
      have f1 := f1.ext hb
      have f2 := f2.ext hb
      have fb := fb.trans (hb.mono (by omega))
      have fs := Nat.le_trans fs hb.size
      clear hb
      have F0 := Lib.hid f0
      have F1 := Lib.hid f1
      have F2 := Lib.hid f2
      have FB := Lib.hid fb
      obtain ⟨a0, a1, _, _⟩ := f0.two
      obtain ⟨b0, b1, _, _⟩ := f1.two
      obtain ⟨r0, r1, r2, r3⟩ := f2.two
      clear f0 f1 f2 fb
      rw [← HR2.out]
      clear HR2 p1 p2 p3 p4 p5 p7 p8 p9 p10
      obtain ⟨⟨P, Q⟩, E⟩ := R
      dsimp only [pairE]
      go_wp2_with fail
      have r := Lib.hid (((F2.out).set 0 (.int .i64 (P))).set 1 (.int .i64 (Q)))
      have rb := Lib.hid ((FB.out.setCell (p := ⟨B + 2, 0, none⟩) (by simp) (.int .i64 (P))).setCell (p := ⟨B + 2, 1, none⟩) (by simp) (.int .i64 (Q)))
      generalize World.setCell _ _ _ = w4 at *
      have r0' := r.out.cell 0
      have r1' := r.out.cell 1
      simp only [List.set_cons_zero, List.set_cons_succ, List.getElem?_cons_zero, List.getElem?_cons_succ] at r0' r1'
      refine bodyPost_ret (by simp [results, Tryd.results31, r0', r1', go_sem]; try rfl) rfl ?_
      exact ⟨by first | (rw [show pairE ((P, Q), E) = _ from rfl]; done) | (rw [show pairE ((P, Q), E) = _ from rfl]; rfl), rb.out⟩
theorem divr_any (an ad bn bd : Int) (w : World) (h1 : I64 an) (h2 : I64 ad) (h3 : I64 bn) (h4 : I64 bd) :
    Calls Tryd.prog 33 #[rat an ad, rat bn bd] w fun e w' => e = .returned (pairE (divV an ad bn bd)) ∧ Below w.heap.size w w' := by
  have H1 := Lib.hid h1
  have H2 := Lib.hid h2
  have H3 := Lib.hid h3
  have H4 := Lib.hid h4
  clear h1 h2 h3 h4
  obtain ⟨R, hR⟩ : ∃ R, R = divV an ad bn bd := ⟨_, rfl⟩
  have HR := Lib.hid hR
  rw [← hR]
  obtain ⟨B, hB⟩ : ∃ B, B = w.heap.size := ⟨_, rfl⟩
  have HB := Lib.hid hB
  rw [← hB]
  clear hR
  go_enter Tryd.func33, Tryd.ntmps33
  go_wp2_with fail
  rw [← hB]
  generalize hw1 : World.alloc _ _ = w1
  have f0 : Held w1 B [.int .i64 an, .int .i64 ad] := by subst hw1; exact ((Held.new hB).alloc _).alloc _
  have f1 : Held w1 (B + 1) [.int .i64 bn, .int .i64 bd] := by subst hw1; exact (Held.new (by simp [hB])).alloc _
  have f2 : Held w1 (B + 2) [.int .i64 0, .int .i64 0] := by subst hw1; exact Held.new (by simp [hB])
  have fb : Below B w w1 := by subst hw1; rw [hB]; exact ((below_one _ _).alloc (by simp) _).alloc (by simp; omega) _
  have fs : B + 3 ≤ w1.heap.size := by subst hw1; simp [hB]
  clear hw1 hB
  refine (validr_any an ad _ H1.out H2.out).mono ?_
  rintro e w2 ⟨rfl, hb⟩
  have f0 := f0.ext hb
  have f1 := f1.ext hb
  have f2 := f2.ext hb
  have fb := fb.trans (hb.mono (by omega))
  have fs := Nat.le_trans fs hb.size
  clear hb
  have F0 := Lib.hid f0
  have F1 := Lib.hid f1
  have F2 := Lib.hid f2
  have FB := Lib.hid fb
  obtain ⟨a0, a1, _, _⟩ := f0.two
  obtain ⟨b0, b1, _, _⟩ := f1.two
  obtain ⟨r0, r1, r2, r3⟩ := f2.two
  clear f0 f1 f2 fb
  cases ha : validV an ad with
  | false =>
    have HR2 := Lib.hid (show R = ((0, 0), 1) by rw [HR.out, divV, if_neg (by simp [ha])])
    clear HR
    go_wp2_with fail
    have r := Lib.hid (((F2.out).set 0 (.int .i64 (0))).set 1 (.int .i64 (0)))
    have rb := Lib.hid ((FB.out.setCell (p := ⟨B + 2, 0, none⟩) (by simp) (.int .i64 (0))).setCell (p := ⟨B + 2, 1, none⟩) (by simp) (.int .i64 (0)))
    generalize World.setCell _ _ _ = w4 at *
    have r0' := r.out.cell 0
    have r1' := r.out.cell 1
    simp only [List.set_cons_zero, List.set_cons_succ, List.getElem?_cons_zero, List.getElem?_cons_succ] at r0' r1'
    refine bodyPost_ret (by simp [results, Tryd.results33, r0', r1', go_sem]; try rfl) rfl ?_
    exact ⟨by first | (rw [HR2.out]; done) | (rw [HR2.out]; rfl), rb.out⟩
  | true =>
    go_wp2_with fail
    refine (validr_any bn bd _ H3.out H4.out).mono ?_
    rintro e w3 ⟨rfl, hb⟩
    have f0 := F0.out
    have f1 := F1.out
    have f2 := F2.out
    have fb := FB.out
    clear a0 a1 b0 b1 r0 r1 r2 r3
    have f0 := f0.ext hb
    have f1 := f1.ext hb
    have f2 := f2.ext hb
    have fb := fb.trans (hb.mono (by omega))
    have fs := Nat.le_trans fs hb.size
    clear hb
    have F0 := Lib.hid f0
    have F1 := Lib.hid f1
    have F2 := Lib.hid f2
    have FB := Lib.hid fb
    obtain ⟨a0, a1, _, _⟩ := f0.two
    obtain ⟨b0, b1, _, _⟩ := f1.two
    obtain ⟨r0, r1, r2, r3⟩ := f2.two
    clear f0 f1 f2 fb
    cases hb : validV bn bd with
    | false =>
      have HR2 := Lib.hid (show R = ((0, 0), 1) by rw [HR.out, divV, if_neg (by simp [ha, hb])])
      clear HR
      go_wp2_with fail
      have r := Lib.hid (((F2.out).set 0 (.int .i64 (0))).set 1 (.int .i64 (0)))
      have rb := Lib.hid ((FB.out.setCell (p := ⟨B + 2, 0, none⟩) (by simp) (.int .i64 (0))).setCell (p := ⟨B + 2, 1, none⟩) (by simp) (.int .i64 (0)))
      generalize World.setCell _ _ _ = w4 at *
      have r0' := r.out.cell 0
      have r1' := r.out.cell 1
      simp only [List.set_cons_zero, List.set_cons_succ, List.getElem?_cons_zero, List.getElem?_cons_succ] at r0' r1'
      refine bodyPost_ret (by simp [results, Tryd.results33, r0', r1', go_sem]; try rfl) rfl ?_
      exact ⟨by first | (rw [HR2.out]; done) | (rw [HR2.out]; rfl), rb.out⟩
    | true =>
      cases h0 : (bn == 0) with
      | true =>
        have HR2 := Lib.hid (show R = ((0, 0), 1) by rw [HR.out, divV, if_neg (by simp [ha, hb, bne, h0])])
        clear HR
        go_wp2_with fail
        have r := Lib.hid (((F2.out).set 0 (.int .i64 (0))).set 1 (.int .i64 (0)))
        have rb := Lib.hid ((FB.out.setCell (p := ⟨B + 2, 0, none⟩) (by simp) (.int .i64 (0))).setCell (p := ⟨B + 2, 1, none⟩) (by simp) (.int .i64 (0)))
        generalize World.setCell _ _ _ = w4 at *
        have r0' := r.out.cell 0
        have r1' := r.out.cell 1
        simp only [List.set_cons_zero, List.set_cons_succ, List.getElem?_cons_zero, List.getElem?_cons_succ] at r0' r1'
        refine bodyPost_ret (by simp [results, Tryd.results33, r0', r1', go_sem]; try rfl) rfl ?_
        exact ⟨by first | (rw [HR2.out]; done) | (rw [HR2.out]; rfl), rb.out⟩
      | false =>
        have h0b : (bn != 0) = true := by simp [bne, h0]
        have HR2 := Lib.hid (show R = makeV (an * bd) (ad * bn) by rw [HR.out, divV, if_pos (by simp [ha, hb, bne, h0])])
        clear HR
        have av := valid_bd ha
        have bv := valid_bd hb
        have p1 := prod_bd (x := an) (y := bd) (by omega) (by omega) (by omega) (by omega)
        have p2 := prod_bd (x := bn) (y := ad) (by omega) (by omega) (by omega) (by omega)
        have p3 := prod_bd (x := ad) (y := bd) (by omega) (by omega) (by omega) (by omega)
        have p4 := prod_bd (x := an) (y := bn) (by omega) (by omega) (by omega) (by omega)
        have p5 := prod_bd (x := ad) (y := bn) (by omega) (by omega) (by omega) (by omega)
        have p6 := sum_bd ha hb
        obtain ⟨⟨p7, p8⟩, p9, p10⟩ := p6
        clear ha hb av bv
        go_wp2_with fail
        refine (maker_any (an * bd) (ad * bn) _ (by omega) (by omega)).mono ?_
        rintro e w4 ⟨rfl, hb⟩
        have f0 := F0.out
        have f1 := F1.out
        have f2 := F2.out
        have fb := FB.out
        clear a0 a1 b0 b1 r0 r1 r2 r3
        have f0 := f0.ext hb
        have f1 := f1.ext hb
        have f2 := f2.ext hb
        have fb := fb.trans (hb.mono (by omega))
        have fs := Nat.le_trans fs hb.size
        clear hb
        have F0 := Lib.hid f0
        have F1 := Lib.hid f1
        have F2 := Lib.hid f2
        have FB := Lib.hid fb
        obtain ⟨a0, a1, _, _⟩ := f0.two
        obtain ⟨b0, b1, _, _⟩ := f1.two
        obtain ⟨r0, r1, r2, r3⟩ := f2.two
        clear f0 f1 f2 fb
        rw [← HR2.out]
        clear HR2 p1 p2 p3 p4 p5 p7 p8 p9 p10
        obtain ⟨⟨P, Q⟩, E⟩ := R
        dsimp only [pairE]
        go_wp2_with fail
        have r := Lib.hid (((F2.out).set 0 (.int .i64 (P))).set 1 (.int .i64 (Q)))
        have rb := Lib.hid ((FB.out.setCell (p := ⟨B + 2, 0, none⟩) (by simp) (.int .i64 (P))).setCell (p := ⟨B + 2, 1, none⟩) (by simp) (.int .i64 (Q)))
        generalize World.setCell _ _ _ = w4 at *
        have r0' := r.out.cell 0
        have r1' := r.out.cell 1
        simp only [List.set_cons_zero, List.set_cons_succ, List.getElem?_cons_zero, List.getElem?_cons_succ] at r0' r1'
        refine bodyPost_ret (by simp [results, Tryd.results33, r0', r1', go_sem]; try rfl) rfl ?_
        exact ⟨by first | (rw [show pairE ((P, Q), E) = _ from rfl]; done) | (rw [show pairE ((P, Q), E) = _ from rfl]; rfl), rb.out⟩
end Go.Proofs.YtdccjkbhmpfcmaaDoor
