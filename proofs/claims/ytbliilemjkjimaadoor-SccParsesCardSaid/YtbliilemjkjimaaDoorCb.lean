/-
  The contracts of Text of layer 3 at the rate 29.97, in the program and in the reference. Their conditions are their hypotheses.
-/
import Derived.Test.YtbliilemjkjimaaDoorC8
import Derived.Test.YtbliilemjkjimaaDoorCa
namespace Go.Proofs.YtbliilemjkjimaaDoor
open Go.RowKit Go.Joins
set_option linter.unusedVariables false
set_option linter.unusedSimpArgs false
def txtB (l : Lab) : ByteArray := ⟨(txtL l).toArray⟩
set_option maxHeartbeats 1000000 in
theorem text_f (h m s f : Int) (w : World) (hc : chkL ⟨h, m, s, f, false⟩ = 0) :
    Calls Tryd.prog 31 #[.int .u8 4, .agg #[.int .i64 h, .int .i64 m, .int .i64 s, .int .i64 f, .bool false]] w fun e w' => e = .returned (.tuple #[.string (txtB ⟨h, m, s, f, false⟩), .int .i64 0]) ∧ Below w.heap.size w w' := by
  have HC := Lib.hid hc
  obtain ⟨t1, t2, t3, t4, t5, t6, t7, t8⟩ := chkL_zero hc
  simp only [] at t1 t2 t3 t4 t5 t6 t7 t8
  obtain ⟨i0, hi, hz0, hz1, hz2⟩ := info_parts i5
  have HI0 := Lib.hid (And.intro hi (And.intro hz0 (And.intro hz1 hz2)))
  obtain ⟨T, hT⟩ : ∃ T, T = txtB ⟨h, m, s, f, false⟩ := ⟨_, rfl⟩
  have HT := Lib.hid hT
  rw [← hT]
  clear hi hz0 hz1 hz2 hc hT
  obtain ⟨B, hB⟩ : ∃ B, B = w.heap.size := ⟨_, rfl⟩
  rw [← hB]
  go_enter Tryd.func31, Tryd.ntmps31
  go_wp2_with (go_at_call 54; refine (chk_any ⟨h, m, s, f, false⟩ _).mono ?_; rintro e w1 ⟨rfl, hb⟩; rw [HC.out]; have H := Lib.hid ((show Held (w.alloc (.cells #[.int .i64 h, .int .i64 m, .int .i64 s, .int .i64 f, .bool false] 56)) B [.int .i64 h, .int .i64 m, .int .i64 s, .int .i64 f, .bool false] from Held.new hB).ext hb); have FB := Lib.hid (show Below B w w1 by subst hB; exact bthen (below_one _ _) hb); rw [← hB]; clear hb hB; have q0 := H.out.cell 0; have q1 := H.out.cell 1; have q2 := H.out.cell 2; have q3 := H.out.cell 3; have q4 := H.out.cell 4; simp only [List.getElem?_cons_zero, List.getElem?_cons_succ] at q0 q1 q2 q3 q4)
  obtain ⟨base, hbase⟩ : ∃ base, base = w1.heap.size := ⟨_, rfl⟩
  have hBb : B < base := by rw [hbase]; exact H.out.lt
  have HO := Lib.hid (World.ownsRow_nil w1 base 5 1)
  have sz : base ≤ w1.heap.size := Nat.le_of_eq hbase
  replace FB := Lib.hid (show Below B w w1 from FB.out)
  clear hbase
  refine (digits_any (.slice none 0 0) 0 [] h base _ HO.out (by first | exact sz | (simp; omega)) (by omega) (by omega) (by omega)).mono ?_
  rintro e w2 ⟨v2, rfl, ho, hb⟩
  replace HO := Lib.hid ho
  replace H := Lib.hid (H.out.below hb hBb)
  replace FB := Lib.hid (FB.out.trans (hb.mono (Nat.le_of_lt hBb)))
  replace sz := Nat.le_trans sz hb.size
  clear ho hb
  clear q0 q1 q2 q3 q4
  have q0 := H.out.cell 0
  have q1 := H.out.cell 1
  have q2 := H.out.cell 2
  have q3 := H.out.cell 3
  have q4 := H.out.cell 4
  simp only [List.getElem?_cons_zero, List.getElem?_cons_succ] at q0 q1 q2 q3 q4
  go_wp2_with (at_builtin; refine wpList_append_own _ rfl _ _ 22 rfl base 5 i0 (.int .u8 0) 1 1 Tryd.underlying22 HI0.out.1 HI0.out.2.1 HI0.out.2.2.1 HI0.out.2.2.2 rfl (by decide) v2 2 ([] ++ (two2 h).map byteV) rfl (HO.out.alloc _) ⟨w2.heap.size, 0, none⟩ 1 1 [byteV 58] rfl rfl (CellsAt.all (by simp [CellsAt, go_sem]; rfl)) (by simp [byteV, Value.oneCell']) (by simp only [maxLen]; omega) (by omega) (by simp; omega) ?_; intro v3 w3 ho hgr _; have hb := ((Below.refl _ _).alloc sz _).grown hgr (by simp; omega) (own_base HO.out); replace HO := Lib.hid ho; replace H := Lib.hid (H.out.below hb hBb); replace FB := Lib.hid (FB.out.trans (hb.mono (Nat.le_of_lt hBb))); replace sz := Nat.le_trans sz hb.size; clear ho hb hgr; clear q0 q1 q2 q3 q4; have q0 := H.out.cell 0; have q1 := H.out.cell 1; have q2 := H.out.cell 2; have q3 := H.out.cell 3; have q4 := H.out.cell 4; simp only [List.getElem?_cons_zero, List.getElem?_cons_succ] at q0 q1 q2 q3 q4)
  refine (digits_any (v3) 3 (([] ++ (two2 h).map byteV) ++ [byteV 58]) m base _ HO.out (by first | exact sz | (simp; omega)) (by omega) (by omega) (by omega)).mono ?_
  rintro e w4 ⟨v4, rfl, ho, hb⟩
  replace HO := Lib.hid ho
  replace H := Lib.hid (H.out.below hb hBb)
  replace FB := Lib.hid (FB.out.trans (hb.mono (Nat.le_of_lt hBb)))
  replace sz := Nat.le_trans sz hb.size
  clear ho hb
  clear q0 q1 q2 q3 q4
  have q0 := H.out.cell 0
  have q1 := H.out.cell 1
  have q2 := H.out.cell 2
  have q3 := H.out.cell 3
  have q4 := H.out.cell 4
  simp only [List.getElem?_cons_zero, List.getElem?_cons_succ] at q0 q1 q2 q3 q4
  go_wp2_with (at_builtin; refine wpList_append_own _ rfl _ _ 22 rfl base 5 i0 (.int .u8 0) 1 1 Tryd.underlying22 HI0.out.1 HI0.out.2.1 HI0.out.2.2.1 HI0.out.2.2.2 rfl (by decide) v4 5 ((([] ++ (two2 h).map byteV) ++ [byteV 58]) ++ (two2 m).map byteV) rfl (HO.out.alloc _) ⟨w4.heap.size, 0, none⟩ 1 1 [byteV 58] rfl rfl (CellsAt.all (by simp [CellsAt, go_sem]; rfl)) (by simp [byteV, Value.oneCell']) (by simp only [maxLen]; omega) (by omega) (by simp; omega) ?_; intro v5 w5 ho hgr _; have hb := ((Below.refl _ _).alloc sz _).grown hgr (by simp; omega) (own_base HO.out); replace HO := Lib.hid ho; replace H := Lib.hid (H.out.below hb hBb); replace FB := Lib.hid (FB.out.trans (hb.mono (Nat.le_of_lt hBb))); replace sz := Nat.le_trans sz hb.size; clear ho hb hgr; clear q0 q1 q2 q3 q4; have q0 := H.out.cell 0; have q1 := H.out.cell 1; have q2 := H.out.cell 2; have q3 := H.out.cell 3; have q4 := H.out.cell 4; simp only [List.getElem?_cons_zero, List.getElem?_cons_succ] at q0 q1 q2 q3 q4)
  refine (digits_any (v5) 6 (((([] ++ (two2 h).map byteV) ++ [byteV 58]) ++ (two2 m).map byteV) ++ [byteV 58]) s base _ HO.out (by first | exact sz | (simp; omega)) (by omega) (by omega) (by omega)).mono ?_
  rintro e w6 ⟨v6, rfl, ho, hb⟩
  replace HO := Lib.hid ho
  replace H := Lib.hid (H.out.below hb hBb)
  replace FB := Lib.hid (FB.out.trans (hb.mono (Nat.le_of_lt hBb)))
  replace sz := Nat.le_trans sz hb.size
  clear ho hb
  clear q0 q1 q2 q3 q4
  have q0 := H.out.cell 0
  have q1 := H.out.cell 1
  have q2 := H.out.cell 2
  have q3 := H.out.cell 3
  have q4 := H.out.cell 4
  simp only [List.getElem?_cons_zero, List.getElem?_cons_succ] at q0 q1 q2 q3 q4
  go_wp2_with (at_builtin; refine wpList_append_own _ rfl _ _ 22 rfl base 5 i0 (.int .u8 0) 1 1 Tryd.underlying22 HI0.out.1 HI0.out.2.1 HI0.out.2.2.1 HI0.out.2.2.2 rfl (by decide) v6 8 ((((([] ++ (two2 h).map byteV) ++ [byteV 58]) ++ (two2 m).map byteV) ++ [byteV 58]) ++ (two2 s).map byteV) rfl (HO.out.alloc _) ⟨w6.heap.size, 0, none⟩ 1 1 [byteV 58] rfl rfl (CellsAt.all (by simp [CellsAt, go_sem]; rfl)) (by simp [byteV, Value.oneCell']) (by simp only [maxLen]; omega) (by omega) (by simp; omega) ?_; intro v7 w7 ho hgr _; have hb := ((Below.refl _ _).alloc sz _).grown hgr (by simp; omega) (own_base HO.out); replace HO := Lib.hid ho; replace H := Lib.hid (H.out.below hb hBb); replace FB := Lib.hid (FB.out.trans (hb.mono (Nat.le_of_lt hBb))); replace sz := Nat.le_trans sz hb.size; clear ho hb hgr; clear q0 q1 q2 q3 q4; have q0 := H.out.cell 0; have q1 := H.out.cell 1; have q2 := H.out.cell 2; have q3 := H.out.cell 3; have q4 := H.out.cell 4; simp only [List.getElem?_cons_zero, List.getElem?_cons_succ] at q0 q1 q2 q3 q4)
  refine (digits_any (v7) 9 (((((([] ++ (two2 h).map byteV) ++ [byteV 58]) ++ (two2 m).map byteV) ++ [byteV 58]) ++ (two2 s).map byteV) ++ [byteV 58]) f base _ HO.out (by first | exact sz | (simp; omega)) (by omega) (by omega) (by omega)).mono ?_
  rintro e w8 ⟨v8, rfl, ho, hb⟩
  replace HO := Lib.hid ho
  replace H := Lib.hid (H.out.below hb hBb)
  replace FB := Lib.hid (FB.out.trans (hb.mono (Nat.le_of_lt hBb)))
  replace sz := Nat.le_trans sz hb.size
  clear ho hb
  clear q0 q1 q2 q3 q4
  have q0 := H.out.cell 0
  have q1 := H.out.cell 1
  have q2 := H.out.cell 2
  have q3 := H.out.cell 3
  have q4 := H.out.cell 4
  simp only [List.getElem?_cons_zero, List.getElem?_cons_succ] at q0 q1 q2 q3 q4
  obtain ⟨A, c, rfl, hr, _, _, _⟩ := row_of_own HO.out
  have HR := Lib.hid hr
  have cv := conv_bytes (w := w8) (A := A) (bs := txtL ⟨h, m, s, f, false⟩) (by
    show RowAt _ _ _
    have := HR.out
    simp only [txtL, List.map_append, List.map_cons, List.map_nil]
    simpa using this) 11 c (txtL_no HC.out).2.symm
  rw [show (⟨(txtL ⟨h, m, s, f, false⟩).toArray⟩ : ByteArray) = T from HT.out.symm] at cv
  clear hr HO
  go_wp2_with fail
  go_ret2
  exact ⟨rfl, FB.out⟩
set_option maxHeartbeats 1000000 in
theorem text_t (h m s f : Int) (w : World) (hc : chkL ⟨h, m, s, f, true⟩ = 0) :
    Calls Tryd.prog 31 #[.int .u8 4, .agg #[.int .i64 h, .int .i64 m, .int .i64 s, .int .i64 f, .bool true]] w fun e w' => e = .returned (.tuple #[.string (txtB ⟨h, m, s, f, true⟩), .int .i64 0]) ∧ Below w.heap.size w w' := by
  have HC := Lib.hid hc
  obtain ⟨t1, t2, t3, t4, t5, t6, t7, t8⟩ := chkL_zero hc
  simp only [] at t1 t2 t3 t4 t5 t6 t7 t8
  obtain ⟨i0, hi, hz0, hz1, hz2⟩ := info_parts i5
  have HI0 := Lib.hid (And.intro hi (And.intro hz0 (And.intro hz1 hz2)))
  obtain ⟨T, hT⟩ : ∃ T, T = txtB ⟨h, m, s, f, true⟩ := ⟨_, rfl⟩
  have HT := Lib.hid hT
  rw [← hT]
  clear hi hz0 hz1 hz2 hc hT
  obtain ⟨B, hB⟩ : ∃ B, B = w.heap.size := ⟨_, rfl⟩
  rw [← hB]
  go_enter Tryd.func31, Tryd.ntmps31
  go_wp2_with (go_at_call 54; refine (chk_any ⟨h, m, s, f, true⟩ _).mono ?_; rintro e w1 ⟨rfl, hb⟩; rw [HC.out]; have H := Lib.hid ((show Held (w.alloc (.cells #[.int .i64 h, .int .i64 m, .int .i64 s, .int .i64 f, .bool true] 56)) B [.int .i64 h, .int .i64 m, .int .i64 s, .int .i64 f, .bool true] from Held.new hB).ext hb); have FB := Lib.hid (show Below B w w1 by subst hB; exact bthen (below_one _ _) hb); rw [← hB]; clear hb hB; have q0 := H.out.cell 0; have q1 := H.out.cell 1; have q2 := H.out.cell 2; have q3 := H.out.cell 3; have q4 := H.out.cell 4; simp only [List.getElem?_cons_zero, List.getElem?_cons_succ] at q0 q1 q2 q3 q4)
  obtain ⟨base, hbase⟩ : ∃ base, base = w1.heap.size := ⟨_, rfl⟩
  have hBb : B < base := by rw [hbase]; exact H.out.lt
  have HO := Lib.hid (World.ownsRow_nil w1 base 5 1)
  have sz : base ≤ w1.heap.size := Nat.le_of_eq hbase
  replace FB := Lib.hid (show Below B w w1 from FB.out)
  clear hbase
  refine (digits_any (.slice none 0 0) 0 [] h base _ HO.out (by first | exact sz | (simp; omega)) (by omega) (by omega) (by omega)).mono ?_
  rintro e w2 ⟨v2, rfl, ho, hb⟩
  replace HO := Lib.hid ho
  replace H := Lib.hid (H.out.below hb hBb)
  replace FB := Lib.hid (FB.out.trans (hb.mono (Nat.le_of_lt hBb)))
  replace sz := Nat.le_trans sz hb.size
  clear ho hb
  clear q0 q1 q2 q3 q4
  have q0 := H.out.cell 0
  have q1 := H.out.cell 1
  have q2 := H.out.cell 2
  have q3 := H.out.cell 3
  have q4 := H.out.cell 4
  simp only [List.getElem?_cons_zero, List.getElem?_cons_succ] at q0 q1 q2 q3 q4
  go_wp2_with (at_builtin; refine wpList_append_own _ rfl _ _ 22 rfl base 5 i0 (.int .u8 0) 1 1 Tryd.underlying22 HI0.out.1 HI0.out.2.1 HI0.out.2.2.1 HI0.out.2.2.2 rfl (by decide) v2 2 ([] ++ (two2 h).map byteV) rfl (HO.out.alloc _) ⟨w2.heap.size, 0, none⟩ 1 1 [byteV 58] rfl rfl (CellsAt.all (by simp [CellsAt, go_sem]; rfl)) (by simp [byteV, Value.oneCell']) (by simp only [maxLen]; omega) (by omega) (by simp; omega) ?_; intro v3 w3 ho hgr _; have hb := ((Below.refl _ _).alloc sz _).grown hgr (by simp; omega) (own_base HO.out); replace HO := Lib.hid ho; replace H := Lib.hid (H.out.below hb hBb); replace FB := Lib.hid (FB.out.trans (hb.mono (Nat.le_of_lt hBb))); replace sz := Nat.le_trans sz hb.size; clear ho hb hgr; clear q0 q1 q2 q3 q4; have q0 := H.out.cell 0; have q1 := H.out.cell 1; have q2 := H.out.cell 2; have q3 := H.out.cell 3; have q4 := H.out.cell 4; simp only [List.getElem?_cons_zero, List.getElem?_cons_succ] at q0 q1 q2 q3 q4)
  refine (digits_any (v3) 3 (([] ++ (two2 h).map byteV) ++ [byteV 58]) m base _ HO.out (by first | exact sz | (simp; omega)) (by omega) (by omega) (by omega)).mono ?_
  rintro e w4 ⟨v4, rfl, ho, hb⟩
  replace HO := Lib.hid ho
  replace H := Lib.hid (H.out.below hb hBb)
  replace FB := Lib.hid (FB.out.trans (hb.mono (Nat.le_of_lt hBb)))
  replace sz := Nat.le_trans sz hb.size
  clear ho hb
  clear q0 q1 q2 q3 q4
  have q0 := H.out.cell 0
  have q1 := H.out.cell 1
  have q2 := H.out.cell 2
  have q3 := H.out.cell 3
  have q4 := H.out.cell 4
  simp only [List.getElem?_cons_zero, List.getElem?_cons_succ] at q0 q1 q2 q3 q4
  go_wp2_with (at_builtin; refine wpList_append_own _ rfl _ _ 22 rfl base 5 i0 (.int .u8 0) 1 1 Tryd.underlying22 HI0.out.1 HI0.out.2.1 HI0.out.2.2.1 HI0.out.2.2.2 rfl (by decide) v4 5 ((([] ++ (two2 h).map byteV) ++ [byteV 58]) ++ (two2 m).map byteV) rfl (HO.out.alloc _) ⟨w4.heap.size, 0, none⟩ 1 1 [byteV 58] rfl rfl (CellsAt.all (by simp [CellsAt, go_sem]; rfl)) (by simp [byteV, Value.oneCell']) (by simp only [maxLen]; omega) (by omega) (by simp; omega) ?_; intro v5 w5 ho hgr _; have hb := ((Below.refl _ _).alloc sz _).grown hgr (by simp; omega) (own_base HO.out); replace HO := Lib.hid ho; replace H := Lib.hid (H.out.below hb hBb); replace FB := Lib.hid (FB.out.trans (hb.mono (Nat.le_of_lt hBb))); replace sz := Nat.le_trans sz hb.size; clear ho hb hgr; clear q0 q1 q2 q3 q4; have q0 := H.out.cell 0; have q1 := H.out.cell 1; have q2 := H.out.cell 2; have q3 := H.out.cell 3; have q4 := H.out.cell 4; simp only [List.getElem?_cons_zero, List.getElem?_cons_succ] at q0 q1 q2 q3 q4)
  refine (digits_any (v5) 6 (((([] ++ (two2 h).map byteV) ++ [byteV 58]) ++ (two2 m).map byteV) ++ [byteV 58]) s base _ HO.out (by first | exact sz | (simp; omega)) (by omega) (by omega) (by omega)).mono ?_
  rintro e w6 ⟨v6, rfl, ho, hb⟩
  replace HO := Lib.hid ho
  replace H := Lib.hid (H.out.below hb hBb)
  replace FB := Lib.hid (FB.out.trans (hb.mono (Nat.le_of_lt hBb)))
  replace sz := Nat.le_trans sz hb.size
  clear ho hb
  clear q0 q1 q2 q3 q4
  have q0 := H.out.cell 0
  have q1 := H.out.cell 1
  have q2 := H.out.cell 2
  have q3 := H.out.cell 3
  have q4 := H.out.cell 4
  simp only [List.getElem?_cons_zero, List.getElem?_cons_succ] at q0 q1 q2 q3 q4
  go_wp2_with (at_builtin; refine wpList_append_own _ rfl _ _ 22 rfl base 5 i0 (.int .u8 0) 1 1 Tryd.underlying22 HI0.out.1 HI0.out.2.1 HI0.out.2.2.1 HI0.out.2.2.2 rfl (by decide) v6 8 ((((([] ++ (two2 h).map byteV) ++ [byteV 58]) ++ (two2 m).map byteV) ++ [byteV 58]) ++ (two2 s).map byteV) rfl (HO.out.alloc _) ⟨w6.heap.size, 0, none⟩ 1 1 [byteV 59] rfl rfl (CellsAt.all (by simp [CellsAt, go_sem]; rfl)) (by simp [byteV, Value.oneCell']) (by simp only [maxLen]; omega) (by omega) (by simp; omega) ?_; intro v7 w7 ho hgr _; have hb := ((Below.refl _ _).alloc sz _).grown hgr (by simp; omega) (own_base HO.out); replace HO := Lib.hid ho; replace H := Lib.hid (H.out.below hb hBb); replace FB := Lib.hid (FB.out.trans (hb.mono (Nat.le_of_lt hBb))); replace sz := Nat.le_trans sz hb.size; clear ho hb hgr; clear q0 q1 q2 q3 q4; have q0 := H.out.cell 0; have q1 := H.out.cell 1; have q2 := H.out.cell 2; have q3 := H.out.cell 3; have q4 := H.out.cell 4; simp only [List.getElem?_cons_zero, List.getElem?_cons_succ] at q0 q1 q2 q3 q4)
  refine (digits_any (v7) 9 (((((([] ++ (two2 h).map byteV) ++ [byteV 58]) ++ (two2 m).map byteV) ++ [byteV 58]) ++ (two2 s).map byteV) ++ [byteV 59]) f base _ HO.out (by first | exact sz | (simp; omega)) (by omega) (by omega) (by omega)).mono ?_
  rintro e w8 ⟨v8, rfl, ho, hb⟩
  replace HO := Lib.hid ho
  replace H := Lib.hid (H.out.below hb hBb)
  replace FB := Lib.hid (FB.out.trans (hb.mono (Nat.le_of_lt hBb)))
  replace sz := Nat.le_trans sz hb.size
  clear ho hb
  clear q0 q1 q2 q3 q4
  have q0 := H.out.cell 0
  have q1 := H.out.cell 1
  have q2 := H.out.cell 2
  have q3 := H.out.cell 3
  have q4 := H.out.cell 4
  simp only [List.getElem?_cons_zero, List.getElem?_cons_succ] at q0 q1 q2 q3 q4
  obtain ⟨A, c, rfl, hr, _, _, _⟩ := row_of_own HO.out
  have HR := Lib.hid hr
  have cv := conv_bytes (w := w8) (A := A) (bs := txtL ⟨h, m, s, f, true⟩) (by
    show RowAt _ _ _
    have := HR.out
    simp only [txtL, List.map_append, List.map_cons, List.map_nil]
    simpa using this) 11 c (txtL_no HC.out).2.symm
  rw [show (⟨(txtL ⟨h, m, s, f, true⟩).toArray⟩ : ByteArray) = T from HT.out.symm] at cv
  clear hr HO
  go_wp2_with fail
  go_ret2
  exact ⟨rfl, FB.out⟩
theorem text_any (l : Lab) (w : World) (hc : chkL l = 0) :
    Calls Tryd.prog 31 #[.int .u8 4, labA l] w fun e w' => e = .returned (.tuple #[.string (txtB l), .int .i64 0]) ∧ Below w.heap.size w w' := by
  obtain ⟨h, m, s, f, d⟩ := l
  cases d
  · exact text_f h m s f w hc
  · exact text_t h m s f w hc
end Go.Proofs.YtbliilemjkjimaaDoor
