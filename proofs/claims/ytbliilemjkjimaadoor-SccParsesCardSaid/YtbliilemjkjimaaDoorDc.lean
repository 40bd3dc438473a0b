/-
  The contract of split of the reference of layer 31. Its conditions are its hypotheses.
-/
import Derived.Test.YtbliilemjkjimaaDoorDa
import Derived.Test.YtbliilemjkjimaaDoorCj
import Derived.Test.YtbliilemjkjimaaDoorSx
namespace Go.Proofs.YtbliilemjkjimaaDoor
open Go.RowKit Go.Joins
set_option linter.unusedVariables false
set_option linter.unusedSimpArgs false
/-- The lines of a text; one without bytes at the end is left out. -/
def splitL (s : List UInt8) : List (List UInt8) := if (wordsC 10 s).getLast? = some [] then (wordsC 10 s).dropLast else wordsC 10 s
theorem splitL_end {s u : List UInt8} {ds : List (List UInt8)} (h : wordsC 10 s = ds ++ [u]) : splitL s = if u = [] then ds else ds ++ [u] := by
  unfold splitL
  rw [h]
  simp
theorem linesV_snoc : ∀ (t : List (List UInt8)) (n : Int) (r : Rd), linesV n r (t ++ [[]]) = linesV n r t
  | [], n, r => by simp [linesV]
  | s :: t, n, r => by
    rw [List.cons_append, linesV, linesV]
    split
    · exact linesV_snoc t _ _
    · cases lineV r s with
      | error e => rfl
      | ok r' => exact linesV_snoc t _ _
theorem parse_split (s : List UInt8) : parseV s = parseW (splitL s) := by
  unfold parseV splitL
  split
  · rename_i h
    have h2 : wordsC 10 s = (wordsC 10 s).dropLast ++ [[]] := by
      obtain ⟨ys, hy⟩ := List.getLast?_eq_some_iff.1 h
      rw [hy]
      simp
    generalize (wordsC 10 s).dropLast = t at h2
    rw [h2]
    cases t with
    | nil => simp [parseW, headL]
    | cons a t =>
      rw [List.cons_append, parseW, parseW]
      split
      · rfl
      · rw [linesV_snoc]
  · rfl
def strV (l : List UInt8) : Value := .string (sB l)
theorem i9 : (Tryd.prog.info? 9).map (fun i => (i.zero, i.size, i.bytes)) = some (some (.string ⟨#[]⟩), 1, 16) := by kernel_rfl
theorem extract_sB {s : ByteArray} {f k : Nat} : s.extract f k = sB ((s.data.toList.drop f).take (k - f)) := ByteArray.ext (by
  apply Array.ext'
  simp [sB, List.drop_take])
def RowsP (ls : List (List UInt8)) (B : Nat) (w : World) (e : Ending) (w' : World) : Prop := (∃ A c, e = .returned (.slice A ls.length c) ∧ RowAt w' A (ls.map strV)) ∧ Below B w w'
theorem RowsP.of {ls : List (List UInt8)} {B : Nat} {w w' : World} {A : Option Addr} {n c : Nat} (hn : n = ls.length) (hr : RowAt w' A (ls.map strV)) (hb : Below B w w') : RowsP ls B w (.returned (.slice A n c)) w' := ⟨⟨A, c, by rw [hn], hr⟩, hb⟩
set_option maxRecDepth 100000 in
set_option maxHeartbeats 1000000 in
theorem splitr_any (s : ByteArray) (w : World) (hs : s.size ≤ 1000) :
    Calls Tryd.prog 41 #[.string s] w (RowsP (splitL s.data.toList) w.heap.size w) := by
  obtain ⟨i0, hi, hz0, hz1, hz2⟩ := info_parts i9
  have HI0 := Lib.hid (And.intro hi (And.intro hz0 (And.intro hz1 hz2)))
  clear hi hz0 hz1 hz2
  obtain ⟨l, hl⟩ : ∃ l, l = s.data.toList := ⟨_, rfl⟩
  have HL := Lib.hid hl
  have HLN := Lib.hid (show l.length = s.size by rw [hl]; simp)
  rw [← hl]
  clear hl
  obtain ⟨B, hB⟩ : ∃ B, B = w.heap.size := ⟨_, rfl⟩
  have HB := Lib.hid hB
  rw [← hB]
  clear hB
  go_enter Tryd.func41, Tryd.ntmps41
  go_wp2_with fail
  go_loopw [3, 4, 8] (fun o f i wr => ∃ (k fr : Nat) (ds : List (List UInt8)) (ov : Value), ov = o ∧ k ≤ s.size ∧ fr ≤ k ∧ i = .int .i64 k ∧ f = .int .i64 fr ∧ ds.length ≤ k ∧ Hid (wr.ownsRow B 9 1 ov ds.length (ds.map strV)) ∧ Hid (Below B w wr) ∧ Hid (wordsC 10 l = ds ++ wordsC 10 (l.drop fr) ∧ 10 ∉ (l.drop fr).take (k - fr))) (fun _ _ i _ => s.size - (intOf i).toNat)
  case atStart => exact ⟨0, 0, [], _, rfl, by omega, by omega, rfl, rfl, by simp, Lib.hid (World.ownsRow_nil _ _ _ _), Lib.hid (by rw [HB.out]; exact Below.refl _ _), Lib.hid ⟨by simp, by simp⟩⟩
  case round =>
    obtain ⟨k, fr, ds, ov, rfl, hk, hf, rfl, rfl, hd, HO, G, HW⟩ := hrel
    have hBw : B ≤ wr.heap.size := by have := G.out.size; have := HB.out; omega
    by_cases hlt : k < s.size
    · have hlt2 : (k : Int) < (s.size : Int) := by omega
      have ix := fun w' => idx_str (s := s) (x := (k : Int)) (j := k) rfl hlt w'
      have HBT := Lib.hid (show l[k]? = some (bt s k) by
        rw [HL.out]
        unfold bt
        rw [List.getD_eq_getElem?_getD, List.getElem?_eq_getElem (by simpa using hlt)]
        rfl)
      have hb8 := (bt s k).toNat_lt
      have hfi : (fr : Int) ≤ (k : Int) := by omega
      have hfi0 : (0 : Int) ≤ (fr : Int) := by omega
      have hk0 : (0 : Int) ≤ (k : Int) := by omega
      have hDK := Lib.hid (show (l.drop fr).drop (k - fr) = bt s k :: l.drop (k + 1) by
        rw [List.drop_drop, show fr + (k - fr) = k by omega]
        obtain ⟨g1, g2⟩ := List.getElem?_eq_some_iff.1 HBT.out
        rw [List.drop_eq_getElem_cons g1, g2])
      by_cases h10 : bt s k = 10
      · have t1 : (((bt s k).toNat : Int) == 10) = true := by rw [h10]; rfl
        have HU := Lib.hid (show Value.string (s.extract fr k) = strV ((l.drop fr).take (k - fr)) by rw [HL.out, strV, extract_sB])
        have HW2 := Lib.hid (show wordsC 10 l = ds ++ [(l.drop fr).take (k - fr)] ++ wordsC 10 (l.drop (k + 1)) by
          have h1 := HW.out.1
          rw [← List.take_append_drop (k - fr) (l.drop fr), hDK.out, h10, wordsC_cut HW.out.2] at h1
          rw [h1]
          simp)
        clear h10
        go_wp2_with (at_builtin; go_loud (refine wpList_append_own _ rfl _ _ 66 rfl B 9 i0 (.string ⟨#[]⟩) 1 16 Tryd.underlying66 HI0.out.1 HI0.out.2.1 HI0.out.2.2.1 HI0.out.2.2.2 rfl (by decide) ov ds.length (ds.map strV) rfl (HO.out.alloc _) ⟨wr.heap.size, 0, none⟩ 1 1 [.string (s.extract fr k)] rfl rfl (CellsAt.all (by simp [CellsAt, go_sem])) (by simp [Value.oneCell']) (by simp only [maxLen]; omega) (by omega) (by simp; omega) ?_))
        intro o' w5 ho hgr _
        have G5 := Lib.hid (show Below B w w5 from ((G.out.alloc hBw _).grown hgr (by simp; omega) (own_base HO.out)))
        have HO5 := Lib.hid (show w5.ownsRow B 9 1 o' (ds ++ [(l.drop fr).take (k - fr)]).length ((ds ++ [(l.drop fr).take (k - fr)]).map strV) by
          rw [List.map_append, List.length_append]
          rw [HU.out] at ho
          exact ho)
        clear ho hgr
        go_wp2_with fail
        go_roundw
        case rel => exact ⟨k + 1, k + 1, ds ++ [(l.drop fr).take (k - fr)], _, rfl, by omega, by omega, by go_num, by go_num, by simp; omega, HO5, G5, Lib.hid ⟨HW2.out, by simp⟩⟩
        case measure => simp [intOf]; omega
      · have t1 : (((bt s k).toNat : Int) == 10) = false := by
          rw [beq_eq_false_iff_ne]
          intro e
          exact h10 (UInt8.toNat_inj.1 (by simp; omega))
        have HW2 := Lib.hid (show 10 ∉ (l.drop fr).take (k + 1 - fr) by
          have h1 := HW.out.2
          rw [show k + 1 - fr = (k - fr) + 1 by omega, List.take_add_one]
          have h2 : (l.drop fr)[k - fr]? = some (bt s k) := by rw [List.getElem?_drop, show fr + (k - fr) = k by omega]; exact HBT.out
          rw [h2]
          simp only [Option.toList_some, List.mem_append, List.mem_singleton, not_or]
          exact ⟨h1, fun e => h10 e.symm⟩)
        clear h10
        go_wp2_with fail
        go_roundw
        case rel => exact ⟨k + 1, fr, ds, _, rfl, by omega, by omega, by go_num, rfl, by omega, HO, G, Lib.hid ⟨HW.out.1, HW2.out⟩⟩
        case measure => simp [intOf]; omega
    · obtain rfl : k = s.size := by omega
      have HW2 := Lib.hid (show wordsC 10 l = ds ++ [l.drop fr] by
        have h1 := HW.out.2
        rw [List.take_of_length_le (by rw [List.length_drop, HLN.out]; exact Nat.le_refl _)] at h1
        rw [HW.out.1, wordsC_no h1])
      have hfi0 : (0 : Int) ≤ (fr : Int) := by omega
      by_cases hfs : fr < s.size
      · have hfs2 : (fr : Int) < (s.size : Int) := by omega
        have HU := Lib.hid (show Value.string (s.extract fr s.size) = strV (l.drop fr) by
          rw [strV, extract_sB, HL.out, List.take_of_length_le (by simp)])
        have HE := Lib.hid (show splitL l = ds ++ [l.drop fr] by
          rw [splitL_end HW2.out, if_neg]
          intro e
          have := congrArg List.length e
          rw [List.length_drop, HLN.out] at this
          simp at this
          omega)
        go_wp2_with (at_builtin; go_loud (refine wpList_append_own _ rfl _ _ 66 rfl B 9 i0 (.string ⟨#[]⟩) 1 16 Tryd.underlying66 HI0.out.1 HI0.out.2.1 HI0.out.2.2.1 HI0.out.2.2.2 rfl (by decide) ov ds.length (ds.map strV) rfl (HO.out.alloc _) ⟨wr.heap.size, 0, none⟩ 1 1 [.string (s.extract fr s.size)] rfl rfl (CellsAt.all (by simp [CellsAt, go_sem])) (by simp [Value.oneCell']) (by simp only [maxLen]; omega) (by omega) (by simp; omega) ?_))
        intro o' w5 ho hgr _
        have G5 := Lib.hid (show Below B w w5 from ((G.out.alloc hBw _).grown hgr (by simp; omega) (own_base HO.out)))
        have HO5 := Lib.hid (show w5.ownsRow B 9 1 o' (splitL l).length ((splitL l).map strV) by
          rw [HE.out, List.map_append, List.length_append]
          rw [HU.out] at ho
          exact ho)
        obtain ⟨A9, c9, e9, r9, _, _, _⟩ := row_of_own HO5.out
        cases e9
        have HR := Lib.hid r9
        clear ho hgr r9
        go_wp2_with fail
        go_ret
        exact RowsP.of rfl HR.out G5.out
      · have hfs2 : ¬ (fr : Int) < (s.size : Int) := by omega
        have HE := Lib.hid (show splitL l = ds by
          rw [splitL_end HW2.out, if_pos]
          rw [List.drop_of_length_le (by rw [HLN.out]; omega)])
        obtain ⟨A9, c9, rfl, r9, _, _, _⟩ := row_of_own HO.out
        have HR := Lib.hid r9
        clear r9
        go_wp2_with fail
        go_ret
        exact RowsP.of (by rw [HE.out]) (by rw [HE.out]; exact HR.out) G.out
end Go.Proofs.YtbliilemjkjimaaDoor
