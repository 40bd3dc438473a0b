/-
  The contract of the law PenaltyParses. Its conditions are its hypotheses.
-/
import Derived.Test.YtbebnbpdemdocaaDoorUT
namespace Go.Proofs.YtbebnbpdemdocaaDoor
open Go.RowKit Go.Joins
set_option linter.unusedVariables false
set_option linter.unusedSimpArgs false
theorem parseP_err {s : List UInt8} {k : Int} (h : parseP s = .error k) : k ≠ 0 := by
  unfold parseP at h
  split at h
  · split at h
    · split at h
      · split at h
        · cases h
        · cases h; assumption
      · cases h; decide
    · cases h; decide
  · cases h; decide
/-- What both Parse give, at one text: the table's numbers and the error. -/
def tabOf (s : List UInt8) : List Int × Int := match parseP s with | .ok cs => (cs, 0) | .error k => (zero12, k)
theorem tab_len (s : List UInt8) : (tabOf s).1.length = 12 := by
  unfold tabOf
  split
  · rename_i cs h; exact (txtP_parse h).2.1
  · rfl
theorem TabP.of {l : List UInt8} {B : Nat} {w w' : World} {e : Ending} (h : TabP l B w e w') : e = .returned (.tuple #[tblV (tabOf l).1, .int .i64 (tabOf l).2]) ∧ Below B w w' := by
  refine ⟨?_, h.2⟩
  have h1 := h.1
  unfold tabOf
  split at h1 <;> rename_i e1 <;> rw [e1] <;> exact h1
theorem parse_tab (q : ByteArray) (w : World) (hs : q.size ≤ 1000) (hm : Mx w) {c0 c1 c2 c3 c4 c5 c6 c7 c8 c9 c10 c11 : Int} {p : Int} (ht : tabOf q.data.toList = ([c0, c1, c2, c3, c4, c5, c6, c7, c8, c9, c10, c11], p)) :
    Calls Tryd.prog 8 #[.string q] w fun e w' => e = .returned (.tuple #[.agg #[.int .i64 c0, .int .i64 c1, .int .i64 c2, .int .i64 c3, .int .i64 c4, .int .i64 c5, .int .i64 c6, .int .i64 c7, .int .i64 c8, .int .i64 c9, .int .i64 c10, .int .i64 c11], .int .i64 p]) ∧ Below w.heap.size w w' := by
  refine (parse35_any q w hs hm).mono ?_
  rintro e w' h
  have := h.of
  rw [ht] at this
  exact this
theorem parser_tab (q : ByteArray) (w : World) (hs : q.size ≤ 1000) {c0 c1 c2 c3 c4 c5 c6 c7 c8 c9 c10 c11 : Int} {p : Int} (ht : tabOf q.data.toList = ([c0, c1, c2, c3, c4, c5, c6, c7, c8, c9, c10, c11], p)) :
    Calls Tryd.prog 10 #[.string q] w fun e w' => e = .returned (.tuple #[.agg #[.int .i64 c0, .int .i64 c1, .int .i64 c2, .int .i64 c3, .int .i64 c4, .int .i64 c5, .int .i64 c6, .int .i64 c7, .int .i64 c8, .int .i64 c9, .int .i64 c10, .int .i64 c11], .int .i64 p]) ∧ Below w.heap.size w w' := by
  refine (parser35_any q w hs).mono ?_
  rintro e w' h
  have := h.of
  rw [ht] at this
  exact this
theorem cut200 (s : ByteArray) (h : 200 < s.size) : (s.extract 0 200).size ≤ 1000 := by
  simp [ByteArray.size_extract]
  omega
set_option maxHeartbeats 1000000 in
theorem parses_law (s : ByteArray) (w : World) (hs : s.size ≤ 9223372036854775807) (ht : Tab w) (hm : Mx w) :
    Calls Tryd.prog 4 #[.string s] w fun e w' => e = .returned (.bool true) ∧ Below w.heap.size w w' := by
  have HT := Lib.hid ht
  have HM := Lib.hid hm
  clear ht hm
  have HC := Lib.hid (fun h => cut200 s h)
  go_enter Tryd.func4, Tryd.ntmps4
  go_wp2_with fail
  refine (awake_any _).mono ?_
  rintro e w1 ⟨rfl, hb⟩
  have FB := Lib.hid hb
  have T1 := Lib.hid (HT.out.on hb)
  have M1 := Lib.hid (HM.out.on hb)
  clear hb HT HM
  by_cases h200 : s.size ≤ 200
  all_goals
    go_wp2_with fail
    generalize hq : Value.string _ = v
    obtain ⟨q, rfl, hqs⟩ : ∃ q : ByteArray, v = .string q ∧ q.size ≤ 1000 := by
      first
      | exact ⟨_, hq.symm, HC.out (by omega)⟩
      | exact ⟨_, hq.symm, by omega⟩
    clear hq HC
    obtain ⟨R, hR⟩ : ∃ R, R = tabOf q.data.toList := ⟨_, rfl⟩
    obtain ⟨cs, p⟩ := R
    have hcl : cs.length = 12 := by have := tab_len q.data.toList; rw [← hR] at this; exact this
    obtain ⟨c0, c1, c2, c3, c4, c5, c6, c7, c8, c9, c10, c11, rfl⟩ := twelve_of hcl
    have HX1 := Lib.hid (fun (W : World) (hW : Mx W) => parse_tab q W hqs hW hR.symm)
    have HX2 := Lib.hid (fun (W : World) => parser_tab q W hqs hR.symm)
    have HR := Lib.hid hR
    clear hR hcl
    refine (HX1.out _ M1.out).mono ?_
    rintro e w2 ⟨rfl, hb⟩
    replace FB := Lib.hid (FB.out.trans (hb.mono FB.out.size))
    replace T1 := Lib.hid (T1.out.on hb)
    clear hb M1 HX1
    go_wp2_with fail
    obtain ⟨B1, hB1⟩ : ∃ B1, B1 = w2.heap.size := ⟨_, rfl⟩
    rw [← hB1]
    generalize hw3 : World.alloc _ _ = w3
    have H1 := Lib.hid (show Held w3 B1 [.int .i64 c0, .int .i64 c1, .int .i64 c2, .int .i64 c3, .int .i64 c4, .int .i64 c5, .int .i64 c6, .int .i64 c7, .int .i64 c8, .int .i64 c9, .int .i64 c10, .int .i64 c11] by subst hw3; exact Held.new hB1)
    have hb : Below w2.heap.size w2 w3 := by subst hw3; exact below_one _ _
    replace FB := Lib.hid (FB.out.trans (hb.mono FB.out.size))
    replace T1 := Lib.hid (T1.out.on hb)
    clear hw3 hB1 hb
    refine (HX2.out _).mono ?_
    rintro e w4 ⟨rfl, hb⟩
    replace FB := Lib.hid (FB.out.trans (hb.mono FB.out.size))
    replace T1 := Lib.hid (T1.out.on hb)
    replace H1 := Lib.hid (H1.out.ext hb)
    clear hb HX2
    have q1 := H1.out.cell
    have hBw : B1 < w4.heap.size := H1.out.lt
    go_wp2_with fail
    refine (equal_same _ _ _ _ _ _ _ _ _ _ _ _ _).mono ?_
    rintro e w6 ⟨rfl, hb⟩
    replace FB := Lib.hid ((FB.out.alloc FB.out.size _).trans (hb.mono (by have := FB.out.size; simp; omega)))
    replace T1 := Lib.hid ((T1.out.on (below_one _ _)).on hb)
    replace H1 := Lib.hid ((H1.out.alloc _).ext hb)
    clear hb q1 hBw
    by_cases h0 : p = 0
    · have t1 : (p != 0) = false := by simp [h0]
      have HT := Lib.hid (show prT (printT [c0, c1, c2, c3, c4, c5, c6, c7, c8, c9, c10, c11]) = .tuple #[.string q, .int .i64 0] by
        have h1 := HR.out
        unfold tabOf at h1
        split at h1
        · rename_i cs hcs
          cases h1
          obtain ⟨g1, g2, g3⟩ := txtP_parse hcs
          rw [printT, if_pos g3, prT, g1, sB_of]
        · rename_i k hk
          cases h1
          exact absurd h0 (parseP_err hk))
      clear h0
      have q1 := H1.out.cell
      go_wp2_with fail
      refine (textP_any _ _ _ _ _ _ _ _ _ _ _ _ _ T1.out).mono ?_
      rintro e w7 ⟨rfl, hb⟩
      replace FB := Lib.hid (FB.out.trans (hb.mono FB.out.size))
      rw [HT.out]
      clear hb q1
      go_wp2_with fail
      go_ret
      exact ⟨by simp, FB.out⟩
    · have t1 : (p != 0) = true := by simp [h0]
      clear h0
      go_wp2_with fail
      go_ret
      exact ⟨by simp, FB.out⟩
end Go.Proofs.YtbebnbpdemdocaaDoor
