/-
  The contract of the law PenaltyTexts. Its conditions are its hypotheses.
-/
import Derived.Test.YtbebnbpdemdocaaDoorTg
import Derived.Test.YtbebnbpdemdocaaDoorAwk
import Derived.Test.YtbebnbpdemdocaaDoorLawC
namespace Go.Proofs.YtbebnbpdemdocaaDoor
open Go.RowKit Go.Joins
set_option linter.unusedVariables false
set_option linter.unusedSimpArgs false
theorem txtP_len {cs : List Int} (h : ∀ n ∈ cs, 0 ≤ n ∧ n ≤ 1000000) (hl : cs.length = 12) : (txtP cs).length ≤ 1000 := by
  have := txtT_len h
  unfold txtP headP
  simp
  omega
theorem parse_back {cs : List Int} (hl : cs.length = 12) (hp : pchk cs = 0) (w : World) (hm : Mx w) :
    Calls Tryd.prog 8 #[.string (sB (txtP cs))] w fun e w' => e = .returned (.tuple #[tblV cs, .int .i64 0]) ∧ Below w.heap.size w w' := by
  refine (parse35_any (sB (txtP cs)) w (by rw [sB_size]; exact txtP_len (pchk_range hp) hl) hm).mono ?_
  rintro e w' ⟨h1, h2⟩
  rw [sB_list, parse_txtP hl hp] at h1
  exact ⟨h1, h2⟩
set_option maxHeartbeats 1000000 in
theorem texts_law (c0 c1 c2 c3 c4 c5 c6 c7 c8 c9 c10 c11 : Int) (w : World) (ht : Tab w) (hm : Mx w) :
    Calls Tryd.prog 3 #[.agg #[.int .i64 c0, .int .i64 c1, .int .i64 c2, .int .i64 c3, .int .i64 c4, .int .i64 c5, .int .i64 c6, .int .i64 c7, .int .i64 c8, .int .i64 c9, .int .i64 c10, .int .i64 c11]] w fun e w' => e = .returned (.bool true) ∧ Below w.heap.size w w' := by
  have HP := Lib.hid (show pchk [c0, c1, c2, c3, c4, c5, c6, c7, c8, c9, c10, c11] = 0 → ∀ (W : World), Mx W → Calls Tryd.prog 8 #[.string (sB (txtP [c0, c1, c2, c3, c4, c5, c6, c7, c8, c9, c10, c11]))] W fun e w' => e = .returned (.tuple #[.agg #[.int .i64 c0, .int .i64 c1, .int .i64 c2, .int .i64 c3, .int .i64 c4, .int .i64 c5, .int .i64 c6, .int .i64 c7, .int .i64 c8, .int .i64 c9, .int .i64 c10, .int .i64 c11], .int .i64 0]) ∧ Below W.heap.size W w' from fun hp W hW => parse_back rfl hp W hW)
  have HT := Lib.hid ht
  have HM := Lib.hid hm
  clear ht hm
  obtain ⟨B, hB⟩ : ∃ B, B = w.heap.size := ⟨_, rfl⟩
  rw [← hB]
  go_enter Tryd.func3, Tryd.ntmps3
  go_wp2_with fail
  rw [← hB]
  generalize hw1 : World.alloc _ _ = w1
  have H := Lib.hid (show Held w1 B [.int .i64 c0, .int .i64 c1, .int .i64 c2, .int .i64 c3, .int .i64 c4, .int .i64 c5, .int .i64 c6, .int .i64 c7, .int .i64 c8, .int .i64 c9, .int .i64 c10, .int .i64 c11] by subst hw1; exact Held.new hB)
  have FB := Lib.hid (show Below B w w1 by subst hw1; subst hB; exact below_one _ _)
  have T1 := Lib.hid (show Tab w1 from HT.out.on (hB ▸ FB.out))
  have M1 := Lib.hid (show Mx w1 from HM.out.on (hB ▸ FB.out))
  clear hw1 hB HT HM
  refine (awake_any _).mono ?_
  rintro e w2 ⟨rfl, hb⟩
  replace FB := Lib.hid (FB.out.trans (hb.mono (Nat.le_of_lt H.out.lt)))
  replace H := Lib.hid (H.out.ext hb)
  replace T1 := Lib.hid (T1.out.on hb)
  replace M1 := Lib.hid (M1.out.on hb)
  clear hb
  have q := H.out.cell
  go_wp2_with fail
  refine (textP_any _ _ _ _ _ _ _ _ _ _ _ _ _ T1.out).mono ?_
  rintro e w3 ⟨rfl, hb⟩
  replace FB := Lib.hid (FB.out.trans (hb.mono (Nat.le_of_lt H.out.lt)))
  replace H := Lib.hid (H.out.ext hb)
  replace M1 := Lib.hid (M1.out.on hb)
  clear hb q T1
  obtain ⟨S, hS⟩ : ∃ S, S = sB (printT [c0, c1, c2, c3, c4, c5, c6, c7, c8, c9, c10, c11]).1 := ⟨_, rfl⟩
  obtain ⟨p, hp⟩ : ∃ p, p = (printT [c0, c1, c2, c3, c4, c5, c6, c7, c8, c9, c10, c11]).2 := ⟨_, rfl⟩
  have HPR := Lib.hid (show prT (printT [c0, c1, c2, c3, c4, c5, c6, c7, c8, c9, c10, c11]) = .tuple #[.string S, .int .i64 p] by rw [prT, hS, hp])
  have HS := Lib.hid (And.intro hS hp)
  clear hS hp
  rw [HPR.out]
  have q := H.out.cell
  go_wp2_with fail
  refine (textR_any _ _ _ _ _ _ _ _ _ _ _ _ _).mono ?_
  rintro e w4 ⟨rfl, hb⟩
  replace FB := Lib.hid (FB.out.trans (hb.mono (Nat.le_of_lt H.out.lt)))
  replace H := Lib.hid (H.out.ext hb)
  replace M1 := Lib.hid (M1.out.on hb)
  clear hb q
  rw [HPR.out]
  by_cases h0 : pchk [c0, c1, c2, c3, c4, c5, c6, c7, c8, c9, c10, c11] = 0
  · have hv : printT [c0, c1, c2, c3, c4, c5, c6, c7, c8, c9, c10, c11] = (txtP [c0, c1, c2, c3, c4, c5, c6, c7, c8, c9, c10, c11], 0) := if_pos h0
    obtain ⟨e1, e2⟩ := HS.out
    rw [hv] at e1 e2
    have HP2 := Lib.hid (HP.out h0)
    rw [← e1] at HP2
    subst e2
    clear e1 hv HS HPR HP h0
    go_wp2_with fail
    refine (HP2.out _ M1.out).mono ?_
    rintro e w5 ⟨rfl, hb⟩
    replace FB := Lib.hid (FB.out.trans (hb.mono (Nat.le_of_lt H.out.lt)))
    replace H := Lib.hid (H.out.ext hb)
    clear hb M1
    have q := H.out.cell
    have hBw : B < w5.heap.size := H.out.lt
    go_wp2_with fail
    refine (equal_same _ _ _ _ _ _ _ _ _ _ _ _ _).mono ?_
    rintro e w6 ⟨rfl, hb⟩
    go_wp2_with fail
    go_ret
    exact ⟨by simp, (FB.out.alloc (Nat.le_of_lt hBw) _).trans (hb.mono (by simp; omega))⟩
  · have hv : printT [c0, c1, c2, c3, c4, c5, c6, c7, c8, c9, c10, c11] = ([], pchk [c0, c1, c2, c3, c4, c5, c6, c7, c8, c9, c10, c11]) := if_neg h0
    obtain ⟨e1, e2⟩ := HS.out
    rw [hv] at e1 e2
    have t1 : S.toList = [] := by rw [e1, Lib.toList_data]; rfl
    have t2 : S.toList.isEmpty = true := by rw [t1]; rfl
    have t3 : (p != 0) = true := by rw [e2]; simpa using h0
    clear e1 e2 hv HS HPR HP h0
    go_wp2_with fail
    go_ret
    exact ⟨by simp, FB.out⟩
end Go.Proofs.YtbebnbpdemdocaaDoor
