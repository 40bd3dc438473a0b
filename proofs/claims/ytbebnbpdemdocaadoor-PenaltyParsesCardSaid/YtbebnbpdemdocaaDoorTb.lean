/-
  The contracts of Text of a table, in the program and in the reference. Their conditions are their hypotheses.
-/
import Derived.Test.YtbebnbpdemdocaaDoorTa
namespace Go.Proofs.YtbebnbpdemdocaaDoor
open Go.RowKit Go.Joins
set_option linter.unusedVariables false
set_option linter.unusedSimpArgs false
theorem below_one (w : World) (o : Obj) : Below w.heap.size w (w.alloc o) := (Below.refl _ _).alloc (Nat.le_refl _) _
theorem itoa_small {n : Int} (h0 : 0 ≤ n) (h : n < 10) : Lib.itoa n = [UInt8.ofNat (48 + n).toNat] := by
  rw [itoa_dec h0, Lib.decDigits, dif_pos (by omega), show (48 + n).toNat = 48 + n.toNat by omega]
theorem itoa_big {n : Int} (h : 10 ≤ n) : Lib.itoa n = Lib.itoa (n / 10) ++ Lib.itoa (n % 10) := by
  rw [itoa_dec (by omega), itoa_dec (by omega), itoa_dec (by omega), Lib.decDigits, dif_neg (by omega)]
  rw [show (n / 10).toNat = n.toNat / 10 by omega, show (n % 10).toNat = n.toNat % 10 by omega]
  congr 1
  rw [Lib.decDigits, dif_pos (Nat.mod_lt _ (by decide))]
theorem one_string (w : World) (n : Int) :
    (convert 54 9 (.slice (some ⟨w.heap.size, 0, none⟩) 1 1)).run Tryd.prog (w.alloc (.cells #[.int .u8 n] 5)) = .ok (.string (sB [UInt8.ofNat n.toNat])) (w.alloc (.cells #[.int .u8 n] 5)) := by
  have := run_convert_bytes_arg (P := Tryd.prog) (w.alloc (.cells #[.int .u8 n] 5)) 54 5 Tryd.underlying54 Tryd.underlying5 w.heap.size 0 1 1 [n] rfl (fun i hi => by
    obtain rfl : i = 0 := by omega
    simp [go_sem]) 9 Tryd.underlying9
  exact this
theorem decimal_any : ∀ (k : Nat) (n : Int) (w : World), n.toNat ≤ k → 0 ≤ n → n ≤ 1000000 →
    Calls Tryd.prog 20 #[.int .i64 n] w fun e w' => e = .returned (.string (sB (Lib.itoa n))) ∧ Below w.heap.size w w' := by
  intro k
  have small : ∀ (n : Int) (w : World), 0 ≤ n → n < 10 → Calls Tryd.prog 20 #[.int .i64 n] w fun e w' => e = .returned (.string (sB (Lib.itoa n))) ∧ Below w.heap.size w w' := by
    intro n w h0 hs
    have HI := Lib.hid (itoa_small h0 hs)
    have kc := one_string
    go_enter Tryd.func20, Tryd.ntmps20
    go_wp2_with fail
    go_ret
    exact ⟨by (try rw [HI.out, show n % 10 = n by omega]); try rfl, (Below.refl _ _).alloc (Nat.le_refl _) _⟩
  induction k with
  | zero => exact fun n w hk h0 h1 => small n w h0 (by omega)
  | succ k ih =>
    intro n w hk h0 h1
    by_cases hs : n < 10
    · exact small n w h0 hs
    · have HI := Lib.hid (itoa_big (n := n) (by omega))
      have z1 := itoa_len (n := n / 10) (by omega) (by omega)
      have z2 := Lib.hid (itoa_small (n := n % 10) (by omega) (by omega))
      have kc := one_string
      have ya := fun w' => add_sB (a := Lib.itoa (n / 10)) (b := [UInt8.ofNat (48 + n % 10).toNat]) (by simp; omega) w'
      have HS := Lib.hid ya
      clear ya z1
      go_enter Tryd.func20, Tryd.ntmps20
      go_wp2_with fail
      refine (ih (n / 10) _ (by omega) (by omega) (by omega)).mono ?_
      rintro e w' ⟨rfl, hb⟩
      have HB := Lib.hid hb
      have ya := HS.out
      clear hb kc
      go_wp2_with fail
      go_ret
      exact ⟨by (try rw [HI.out, z2.out]); try rfl, ((below_one _ _).trans (HB.out.mono (by simp)))⟩
set_option maxHeartbeats 1000000 in
theorem textP_any (c0 c1 c2 c3 c4 c5 c6 c7 c8 c9 c10 c11 : Int) (w : World) (ht : Tab w) :
    Calls Tryd.prog 6 #[.agg #[.int .i64 c0, .int .i64 c1, .int .i64 c2, .int .i64 c3, .int .i64 c4, .int .i64 c5, .int .i64 c6, .int .i64 c7, .int .i64 c8, .int .i64 c9, .int .i64 c10, .int .i64 c11]] w fun e w' => e = .returned (prT (printT [c0, c1, c2, c3, c4, c5, c6, c7, c8, c9, c10, c11])) ∧ Below w.heap.size w w' := by
  obtain ⟨cs, hcs⟩ : ∃ cs : List Int, cs = [c0, c1, c2, c3, c4, c5, c6, c7, c8, c9, c10, c11] := ⟨_, rfl⟩
  have HCL := Lib.hid (show cs.length = 12 by rw [hcs]; rfl)
  have HCS := Lib.hid hcs
  rw [← hcs]
  obtain ⟨R, hR⟩ : ∃ R, R = printT cs := ⟨_, rfl⟩
  rw [← hR]
  have HRR := Lib.hid hR
  clear hcs hR
  obtain ⟨B, hB⟩ : ∃ B, B = w.heap.size := ⟨_, rfl⟩
  rw [← hB]
  have HT := Lib.hid (fun (w' : World) (hb : Below B w w') => show Tab w' from ht.on (by rw [← hB]; exact hb))
  clear ht
  unfold prT
  go_enter Tryd.func6, Tryd.ntmps6
  go_wp2_with fail
  rw [← hB]
  generalize hw1 : World.alloc _ _ = w1
  have H := Lib.hid (show Held w1 B [.int .i64 c0, .int .i64 c1, .int .i64 c2, .int .i64 c3, .int .i64 c4, .int .i64 c5, .int .i64 c6, .int .i64 c7, .int .i64 c8, .int .i64 c9, .int .i64 c10, .int .i64 c11] by subst hw1; exact Held.new hB)
  have FB := Lib.hid (show Below B w w1 by subst hw1; subst hB; exact (Below.refl _ _).alloc (Nat.le_refl _) _)
  have hB1 : B < w1.heap.size := H.out.lt
  clear hw1 hB
  refine (check_any _ _ _ _ _ _ _ _ _ _ _ _ _).mono ?_
  rintro e w2 ⟨rfl, hb⟩
  rw [← HCS.out]
  have H2 := Lib.hid (H.out.ext hb)
  have FB2 := Lib.hid (FB.out.trans (hb.mono (Nat.le_of_lt hB1)))
  have hB2 : B < w2.heap.size := H2.out.lt
  clear hb H FB
  by_cases hp : pchk cs = 0
  · have HR := Lib.hid (pchk_range hp)
    have HPT := Lib.hid (show R = (txtP cs, 0) by rw [HRR.out, printT, if_pos hp])
    rw [hp]
    clear hp
    have q0 := H2.out.cell 0
    have q1 := H2.out.cell 1
    have q2 := H2.out.cell 2
    have q3 := H2.out.cell 3
    have q4 := H2.out.cell 4
    have q5 := H2.out.cell 5
    have q6 := H2.out.cell 6
    have q7 := H2.out.cell 7
    have q8 := H2.out.cell 8
    have q9 := H2.out.cell 9
    have q10 := H2.out.cell 10
    have q11 := H2.out.cell 11
    simp only [List.getElem?_cons_zero, List.getElem?_cons_succ] at q0 q1 q2 q3 q4 q5 q6 q7 q8 q9 q10 q11
    go_wp2_with fail
    refine (numbers_any _ _ _ _ _ _ _ _ _ _ _ _ _).mono ?_
    rintro e w3 ⟨g, cap, rfl, hcg, hg, hb⟩
    have HCG := Lib.hid (show ∀ k n, cs[k]? = some n → w3.cell? ⟨g, k, none⟩ = some (.int .i64 n) from fun k n hk => by
      have h1 := hcg.all k (.int .i64 n) (by
        have h2 : (cs.map (Value.int .i64))[k]? = some (.int .i64 n) := by rw [List.getElem?_map, hk]; rfl
        rw [HCS.out] at h2
        exact h2)
      rwa [Addr.add_lit, Nat.zero_add] at h1)
    have FB3 := Lib.hid (FB2.out.trans (hb.mono (Nat.le_of_lt hB2)))
    have hB3 : B ≤ w3.heap.size := Nat.le_trans (Nat.le_of_lt hB2) hb.size
    clear q0 q1 q2 q3 q4 q5 q6 q7 q8 q9 q10 q11 hcg hg hb HCS H2 FB2
    go_wp2_with fail
    go_loopw [5, 16] (fun s i wr => ∃ k : Nat, k ≤ 12 ∧ i = .int .i64 k ∧ s = .string (sB (headP ++ txtT (cs.take k))) ∧ Hid (Below w3.heap.size w3 wr)) (fun _ i _ => 12 - (intOf i).toNat)
    case atStart => exact ⟨0, by omega, rfl, rfl, Lib.hid (Below.refl _ _)⟩
    case round =>
      obtain ⟨k, hk, rfl, rfl, G⟩ := hrel
      have FBr := Lib.hid (FB3.out.trans (G.out.mono hB3))
      by_cases hlt : k < 12
      · obtain ⟨n, hn⟩ : ∃ n, cs[k]? = some n := ⟨_, List.getElem?_eq_getElem (by rw [HCL.out]; exact hlt)⟩
        have hr := HR.out n (List.mem_of_getElem? hn)
        have hlk : (k : Int) < 12 := by omega
        have hk0 : (0 : Int) ≤ (k : Int) := by omega
        have ck : wr.cell? ⟨g, k, none⟩ = some (.int .i64 n) := by
          have h1 := HCG.out k n hn
          exact (G.out.cell (World.block_lt_of_cell? w3 _ h1)).trans h1
        have HSN := Lib.hid (txtT_snoc hn)
        have HLN := Lib.hid (show (headP ++ txtT (cs.take k)).length ≤ 1000 by
          have h1 := txtT_len (cs := cs.take k) (fun m hm => HR.out m (List.mem_of_mem_take hm))
          have h2 : (cs.take k).length ≤ 12 := by rw [List.length_take]; omega
          have h3 : headP.length = 9 := rfl
          rw [List.length_append]
          omega)
        have HIL := Lib.hid (itoa_len hr.1 hr.2)
        obtain ⟨X, hX⟩ : ∃ X, X = headP ++ txtT (cs.take k) := ⟨_, rfl⟩
        rw [← hX] at HLN ⊢
        have HX := Lib.hid hX
        have y0 : ∀ w', (Op.stringOp .add (⟨#[32]⟩ : ByteArray) (sB (Lib.itoa n))).run Tryd.prog w' = .ok (.string (sB (32 :: Lib.itoa n))) w' := fun w' => add_sB (a := [32]) (by have := HIL.out; simp; omega) w'
        have y1 : ∀ w', (Op.stringOp .add (sB X) (sB (32 :: Lib.itoa n))).run Tryd.prog w' = .ok (.string (sB (X ++ 32 :: Lib.itoa n))) w' := fun w' => add_sB (by have := HIL.out; have := HLN.out; simp; omega) w'
        clear hX hn
        go_wp2_with fail
        refine (fmt_any n _ (by omega) (by omega) (HT.out _ FBr.out)).mono ?_
        rintro e w4 ⟨rfl, hb⟩
        have G4 := Lib.hid (G.out.trans (hb.mono G.out.size))
        clear hb
        go_wp2_with fail
        clear y0 y1
        go_roundw
        case rel => exact ⟨k + 1, by omega, by go_num, by rw [HSN.out, HX.out, List.append_assoc], G4⟩
        case measure => simp [intOf]; omega
      · obtain rfl : k = 12 := by omega
        have HE := Lib.hid (show headP ++ txtT (cs.take 12) = txtP cs by rw [txtP, List.take_of_length_le (by rw [HCL.out]; exact Nat.le_refl _)])
        rw [HE.out]
        go_wp2_with fail
        go_ret2
        exact ⟨by rw [HPT.out]; rfl, FBr.out⟩
  · have HPT := Lib.hid (show R = ([], pchk cs) by rw [HRR.out, printT, if_neg hp])
    clear HRR
    have hpb : (pchk cs != 0) = true := by simpa using hp
    clear hp
    generalize pchk cs = x at *
    go_wp2_with fail
    go_ret2
    exact ⟨by rw [HPT.out]; rfl, FB2.out⟩
set_option maxHeartbeats 1000000 in
theorem textR_any (c0 c1 c2 c3 c4 c5 c6 c7 c8 c9 c10 c11 : Int) (w : World) :
    Calls Tryd.prog 7 #[.agg #[.int .i64 c0, .int .i64 c1, .int .i64 c2, .int .i64 c3, .int .i64 c4, .int .i64 c5, .int .i64 c6, .int .i64 c7, .int .i64 c8, .int .i64 c9, .int .i64 c10, .int .i64 c11]] w fun e w' => e = .returned (prT (printT [c0, c1, c2, c3, c4, c5, c6, c7, c8, c9, c10, c11])) ∧ Below w.heap.size w w' := by
  obtain ⟨cs, hcs⟩ : ∃ cs : List Int, cs = [c0, c1, c2, c3, c4, c5, c6, c7, c8, c9, c10, c11] := ⟨_, rfl⟩
  have HCL := Lib.hid (show cs.length = 12 by rw [hcs]; rfl)
  have HCS := Lib.hid hcs
  rw [← hcs]
  obtain ⟨R, hR⟩ : ∃ R, R = printT cs := ⟨_, rfl⟩
  rw [← hR]
  have HRR := Lib.hid hR
  clear hcs hR
  obtain ⟨B, hB⟩ : ∃ B, B = w.heap.size := ⟨_, rfl⟩
  rw [← hB]
  unfold prT
  go_enter Tryd.func7, Tryd.ntmps7
  go_wp2_with fail
  rw [← hB]
  generalize hw1 : World.alloc _ _ = w1
  have H := Lib.hid (show Held w1 B [.int .i64 c0, .int .i64 c1, .int .i64 c2, .int .i64 c3, .int .i64 c4, .int .i64 c5, .int .i64 c6, .int .i64 c7, .int .i64 c8, .int .i64 c9, .int .i64 c10, .int .i64 c11] by subst hw1; exact Held.new hB)
  have FB := Lib.hid (show Below B w w1 by subst hw1; subst hB; exact (Below.refl _ _).alloc (Nat.le_refl _) _)
  have hB1 : B < w1.heap.size := H.out.lt
  clear hw1 hB
  refine (checkr_any _ _ _ _ _ _ _ _ _ _ _ _ _).mono ?_
  rintro e w2 ⟨rfl, hb⟩
  rw [← HCS.out]
  have H2 := Lib.hid (H.out.ext hb)
  have FB2 := Lib.hid (FB.out.trans (hb.mono (Nat.le_of_lt hB1)))
  have hB2 : B < w2.heap.size := H2.out.lt
  clear hb H FB
  by_cases hp : pchk cs = 0
  · have HR := Lib.hid (pchk_range hp)
    have HPT := Lib.hid (show R = (txtP cs, 0) by rw [HRR.out, printT, if_pos hp])
    rw [hp]
    clear hp
    have q0 := H2.out.cell 0
    have q1 := H2.out.cell 1
    have q2 := H2.out.cell 2
    have q3 := H2.out.cell 3
    have q4 := H2.out.cell 4
    have q5 := H2.out.cell 5
    have q6 := H2.out.cell 6
    have q7 := H2.out.cell 7
    have q8 := H2.out.cell 8
    have q9 := H2.out.cell 9
    have q10 := H2.out.cell 10
    have q11 := H2.out.cell 11
    simp only [List.getElem?_cons_zero, List.getElem?_cons_succ] at q0 q1 q2 q3 q4 q5 q6 q7 q8 q9 q10 q11
    go_wp2_with fail
    refine (numbersr_any _ _ _ _ _ _ _ _ _ _ _ _ _).mono ?_
    rintro e w3 ⟨g, cap, rfl, hcg, hg, hb⟩
    have HCG := Lib.hid (show ∀ k n, cs[k]? = some n → w3.cell? ⟨g, k, none⟩ = some (.int .i64 n) from fun k n hk => by
      have h1 := hcg.all k (.int .i64 n) (by
        have h2 : (cs.map (Value.int .i64))[k]? = some (.int .i64 n) := by rw [List.getElem?_map, hk]; rfl
        rw [HCS.out] at h2
        exact h2)
      rwa [Addr.add_lit, Nat.zero_add] at h1)
    have FB3 := Lib.hid (FB2.out.trans (hb.mono (Nat.le_of_lt hB2)))
    have hB3 : B ≤ w3.heap.size := Nat.le_trans (Nat.le_of_lt hB2) hb.size
    clear q0 q1 q2 q3 q4 q5 q6 q7 q8 q9 q10 q11 hcg hg hb HCS H2 FB2
    go_wp2_with fail
    go_loopw [5, 16] (fun s i wr => ∃ k : Nat, k ≤ 12 ∧ i = .int .i64 k ∧ s = .string (sB (headP ++ txtT (cs.take k))) ∧ Hid (Below w3.heap.size w3 wr)) (fun _ i _ => 12 - (intOf i).toNat)
    case atStart => exact ⟨0, by omega, rfl, rfl, Lib.hid (Below.refl _ _)⟩
    case round =>
      obtain ⟨k, hk, rfl, rfl, G⟩ := hrel
      have FBr := Lib.hid (FB3.out.trans (G.out.mono hB3))
      by_cases hlt : k < 12
      · obtain ⟨n, hn⟩ : ∃ n, cs[k]? = some n := ⟨_, List.getElem?_eq_getElem (by rw [HCL.out]; exact hlt)⟩
        have hr := HR.out n (List.mem_of_getElem? hn)
        have hlk : (k : Int) < 12 := by omega
        have hk0 : (0 : Int) ≤ (k : Int) := by omega
        have ck : wr.cell? ⟨g, k, none⟩ = some (.int .i64 n) := by
          have h1 := HCG.out k n hn
          exact (G.out.cell (World.block_lt_of_cell? w3 _ h1)).trans h1
        have HSN := Lib.hid (txtT_snoc hn)
        have HLN := Lib.hid (show (headP ++ txtT (cs.take k)).length ≤ 1000 by
          have h1 := txtT_len (cs := cs.take k) (fun m hm => HR.out m (List.mem_of_mem_take hm))
          have h2 : (cs.take k).length ≤ 12 := by rw [List.length_take]; omega
          have h3 : headP.length = 9 := rfl
          rw [List.length_append]
          omega)
        have HIL := Lib.hid (itoa_len hr.1 hr.2)
        obtain ⟨X, hX⟩ : ∃ X, X = headP ++ txtT (cs.take k) := ⟨_, rfl⟩
        rw [← hX] at HLN ⊢
        have HX := Lib.hid hX
        have y0 : ∀ w', (Op.stringOp .add (⟨#[32]⟩ : ByteArray) (sB (Lib.itoa n))).run Tryd.prog w' = .ok (.string (sB (32 :: Lib.itoa n))) w' := fun w' => add_sB (a := [32]) (by have := HIL.out; simp; omega) w'
        have y1 : ∀ w', (Op.stringOp .add (sB X) (sB (32 :: Lib.itoa n))).run Tryd.prog w' = .ok (.string (sB (X ++ 32 :: Lib.itoa n))) w' := fun w' => add_sB (by have := HIL.out; have := HLN.out; simp; omega) w'
        clear hX hn
        go_wp2_with fail
        refine (decimal_any n.toNat n _ (Nat.le_refl _) (by omega) (by omega)).mono ?_
        rintro e w4 ⟨rfl, hb⟩
        have G4 := Lib.hid (G.out.trans (hb.mono G.out.size))
        clear hb
        go_wp2_with fail
        clear y0 y1
        go_roundw
        case rel => exact ⟨k + 1, by omega, by go_num, by rw [HSN.out, HX.out, List.append_assoc], G4⟩
        case measure => simp [intOf]; omega
      · obtain rfl : k = 12 := by omega
        have HE := Lib.hid (show headP ++ txtT (cs.take 12) = txtP cs by rw [txtP, List.take_of_length_le (by rw [HCL.out]; exact Nat.le_refl _)])
        rw [HE.out]
        go_wp2_with fail
        go_ret2
        exact ⟨by rw [HPT.out]; rfl, FBr.out⟩
  · have HPT := Lib.hid (show R = ([], pchk cs) by rw [HRR.out, printT, if_neg hp])
    clear HRR
    have hpb : (pchk cs != 0) = true := by simpa using hp
    clear hp
    generalize pchk cs = x at *
    go_wp2_with fail
    go_ret2
    exact ⟨by rw [HPT.out]; rfl, FB2.out⟩
end Go.Proofs.YtbebnbpdemdocaaDoor
