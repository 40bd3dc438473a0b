/-
  The contracts of rows and fields of the reference. Their conditions are their hypotheses.
-/
import Derived.Test.YtneiljaknmeagaaGreatDoorBg
namespace Go.Proofs.YtneiljaknmeagaaGreatDoor
open Go.RowKit Go.Joins
set_option linter.unusedVariables false
set_option linter.unusedSimpArgs false
def strV (l : List UInt8) : Value := .string (sB l)
theorem i9 : (Tryz.prog.info? 9).map (fun i => (i.zero, i.size, i.bytes)) = some (some (.string ⟨#[]⟩), 1, 16) := by kernel_rfl
theorem extract_sB {s : ByteArray} {f k : Nat} : s.extract f k = sB ((s.data.toList.drop f).take (k - f)) := ByteArray.ext (by
  apply Array.ext'
  simp [sB, List.drop_take])
theorem app_words {c : UInt8} {l u : List UInt8} {ds : List (List UInt8)} (h : wordsC c l = ds ++ [u]) : (wordsC c l).dropLast = ds ∧ (wordsC c l).getLast? = some u := by
  rw [h]
  simp
def RowsQ (ls : List (List UInt8)) (b : Bool) (B : Nat) (w : World) (e : Ending) (w' : World) : Prop := (∃ v, e = .returned (.tuple #[v, .bool b]) ∧ w'.ownsRow B 9 1 v ls.length (ls.map strV)) ∧ Below B w w'
def FldsP (ls : List (List UInt8)) (B : Nat) (w : World) (e : Ending) (w' : World) : Prop := (∃ v, e = .returned v ∧ w'.ownsRow B 9 1 v ls.length (ls.map strV)) ∧ Below B w w'
set_option maxRecDepth 100000 in
set_option maxHeartbeats 1000000 in
theorem rowsr_any (s : ByteArray) (w : World) (hs : s.size ≤ 100000) :
    Calls Tryz.prog 26 #[.string s] w (RowsQ ((wordsC 10 s.data.toList).dropLast) (decide ((wordsC 10 s.data.toList).getLast? = some [])) w.heap.size w) := by
  obtain ⟨i0, hi, hz0, hz1, hz2⟩ := info_parts i9
  have HI0 := Lib.hid (And.intro hi (And.intro hz0 (And.intro hz1 hz2)))
  clear hi hz0 hz1 hz2
  obtain ⟨l, hl⟩ : ∃ l, l = s.data.toList := ⟨_, rfl⟩
  have HL := Lib.hid hl
  have HLN := Lib.hid (show l.length = s.size by rw [hl]; simp)
  rw [← hl]
  clear hl
  obtain ⟨B, hB⟩ : ∃ B, B = w.heap.size := ⟨_, rfl⟩
  have HB := Lib.hid hB
  rw [← hB]
  clear hB
  unfold RowsQ
  obtain ⟨L0, hL0⟩ : ∃ x, x = (wordsC 10 l).dropLast := ⟨_, rfl⟩
  obtain ⟨b0, hb0⟩ : ∃ x, x = decide ((wordsC 10 l).getLast? = some []) := ⟨_, rfl⟩
  have HL0 := Lib.hid hL0
  have HB0 := Lib.hid hb0
  rw [← hL0, ← hb0]
  clear hL0 hb0
  go_enter Tryz.func26, Tryz.ntmps26
  go_wp2_with fail
  go_loopw [4, 5, 9] (fun o f i wr => ∃ (k fr : Nat) (ds : List (List UInt8)) (ov : Value), ov = o ∧ k ≤ s.size ∧ fr ≤ k ∧ i = .int .i64 k ∧ f = .int .i64 fr ∧ ds.length ≤ k ∧ Hid (wr.ownsRow B 9 1 ov ds.length (ds.map strV)) ∧ Hid (Below B w wr) ∧ Hid (wordsC 10 l = ds ++ wordsC 10 (l.drop fr) ∧ 10 ∉ (l.drop fr).take (k - fr))) (fun _ _ i _ => s.size - (intOf i).toNat)
  case atStart => exact ⟨0, 0, [], _, rfl, by omega, by omega, rfl, rfl, by simp, Lib.hid (World.ownsRow_nil _ _ _ _), Lib.hid (by rw [HB.out]; exact Below.refl _ _), Lib.hid ⟨by simp, by simp⟩⟩
  case round =>
    obtain ⟨k, fr, ds, ov, rfl, hk, hf, rfl, rfl, hd, HO, G, HW⟩ := hrel
    have hBw : B ≤ wr.heap.size := by have := G.out.size; have := HB.out; omega
    by_cases hlt : k < s.size
    · have hlt2 : (k : Int) < (s.size : Int) := by omega
      have ix := fun w' => idx_str (s := s) (x := (k : Int)) (j := k) rfl hlt w'
      have HBT := Lib.hid (show l[k]? = some (bt s k) by
        rw [HL.out]
        unfold bt
        rw [List.getD_eq_getElem?_getD, List.getElem?_eq_getElem (by simpa using hlt)]
        rfl)
      have hb8 := (bt s k).toNat_lt
      have hfi : (fr : Int) ≤ (k : Int) := by omega
      have hfi0 : (0 : Int) ≤ (fr : Int) := by omega
      have hk0 : (0 : Int) ≤ (k : Int) := by omega
      have hDK := Lib.hid (show (l.drop fr).drop (k - fr) = bt s k :: l.drop (k + 1) by
        rw [List.drop_drop, show fr + (k - fr) = k by omega]
        obtain ⟨g1, g2⟩ := List.getElem?_eq_some_iff.1 HBT.out
        rw [List.drop_eq_getElem_cons g1, g2])
      by_cases h10 : bt s k = 10
      · have t1 : (((bt s k).toNat : Int) == 10) = true := by rw [h10]; rfl
        have HU := Lib.hid (show Value.string (s.extract fr k) = strV ((l.drop fr).take (k - fr)) by rw [HL.out, strV, extract_sB])
        have HW2 := Lib.hid (show wordsC 10 l = ds ++ [(l.drop fr).take (k - fr)] ++ wordsC 10 (l.drop (k + 1)) by
          have h1 := HW.out.1
          rw [← List.take_append_drop (k - fr) (l.drop fr), hDK.out, h10, wordsC_cut HW.out.2] at h1
          rw [h1]
          simp)
        clear h10
        go_wp2_with (at_builtin; go_loud (refine wpList_append_own _ rfl _ _ 60 rfl B 9 i0 (.string ⟨#[]⟩) 1 16 Tryz.underlying60 HI0.out.1 HI0.out.2.1 HI0.out.2.2.1 HI0.out.2.2.2 rfl (by decide) ov ds.length (ds.map strV) rfl (HO.out.alloc _) ⟨wr.heap.size, 0, none⟩ 1 1 [.string (s.extract fr k)] rfl rfl (CellsAt.all (by simp [CellsAt, go_sem])) (by simp [Value.oneCell']) (by simp only [maxLen]; omega) (by omega) (by simp; omega) ?_))
        intro o' w5 ho hgr _
        have G5 := Lib.hid (show Below B w w5 from ((G.out.alloc hBw _).grown hgr (by simp; omega) (own_base HO.out)))
        have HO5 := Lib.hid (show w5.ownsRow B 9 1 o' (ds ++ [(l.drop fr).take (k - fr)]).length ((ds ++ [(l.drop fr).take (k - fr)]).map strV) by
          rw [List.map_append, List.length_append]
          rw [HU.out] at ho
          exact ho)
        clear ho hgr
        go_wp2_with fail
        go_roundw
        case rel => exact ⟨k + 1, k + 1, ds ++ [(l.drop fr).take (k - fr)], _, rfl, by omega, by omega, by go_num, by go_num, by simp; omega, HO5, G5, Lib.hid ⟨HW2.out, by simp⟩⟩
        case measure => simp [intOf]; omega
      · have t1 : (((bt s k).toNat : Int) == 10) = false := by
          rw [beq_eq_false_iff_ne]
          intro e
          exact h10 (UInt8.toNat_inj.1 (by simp; omega))
        have HW2 := Lib.hid (show 10 ∉ (l.drop fr).take (k + 1 - fr) by
          have h1 := HW.out.2
          rw [show k + 1 - fr = (k - fr) + 1 by omega, List.take_add_one]
          have h2 : (l.drop fr)[k - fr]? = some (bt s k) := by rw [List.getElem?_drop, show fr + (k - fr) = k by omega]; exact HBT.out
          rw [h2]
          simp only [Option.toList_some, List.mem_append, List.mem_singleton, not_or]
          exact ⟨h1, fun e => h10 e.symm⟩)
        clear h10
        go_wp2_with fail
        go_roundw
        case rel => exact ⟨k + 1, fr, ds, _, rfl, by omega, by omega, by go_num, rfl, by omega, HO, G, Lib.hid ⟨HW.out.1, HW2.out⟩⟩
        case measure => simp [intOf]; omega
    · obtain rfl : k = s.size := by omega
      have HW2 := Lib.hid (show wordsC 10 l = ds ++ [l.drop fr] by
        have h1 := HW.out.2
        rw [List.take_of_length_le (by rw [List.length_drop, HLN.out]; exact Nat.le_refl _)] at h1
        rw [HW.out.1, wordsC_no h1])
      have HE := Lib.hid (app_words HW2.out)
      have hfi0 : (0 : Int) ≤ (fr : Int) := by omega
      obtain rfl : L0 = ds := HL0.out.trans HE.out.1
      have hb1 := HB0.out
      rw [HE.out.2] at hb1
      by_cases hfs : fr = s.size
      · have hfs2 : ((fr : Int) == (s.size : Int)) = true := by rw [hfs]; simp
        have e0 : l.drop fr = [] := List.drop_of_length_le (by rw [HLN.out]; omega)
        rw [e0] at hb1
        obtain rfl : b0 = true := hb1
        clear e0 hfs
        go_wp2_with fail
        go_ret2
        exact ⟨⟨_, rfl, HO.out⟩, G.out⟩
      · have hfs2 : ((fr : Int) == (s.size : Int)) = false := by rw [beq_eq_false_iff_ne]; omega
        have e0 : decide (some (l.drop fr) = some []) = false := by
          rw [decide_eq_false_iff_not]
          intro e
          have := congrArg List.length (Option.some.inj e)
          rw [List.length_drop, HLN.out] at this
          simp at this
          omega
        rw [e0] at hb1
        obtain rfl : b0 = false := hb1
        clear e0 hfs
        go_wp2_with fail
        go_ret2
        exact ⟨⟨_, rfl, HO.out⟩, G.out⟩
set_option maxRecDepth 100000 in
set_option maxHeartbeats 1000000 in
theorem fieldsr_any (s : ByteArray) (w : World) (hs : s.size ≤ 100000) :
    Calls Tryz.prog 27 #[.string s] w (FldsP (wordsC 32 s.data.toList) w.heap.size w) := by
  obtain ⟨i0, hi, hz0, hz1, hz2⟩ := info_parts i9
  have HI0 := Lib.hid (And.intro hi (And.intro hz0 (And.intro hz1 hz2)))
  clear hi hz0 hz1 hz2
  obtain ⟨l, hl⟩ : ∃ l, l = s.data.toList := ⟨_, rfl⟩
  have HL := Lib.hid hl
  have HLN := Lib.hid (show l.length = s.size by rw [hl]; simp)
  rw [← hl]
  clear hl
  obtain ⟨B, hB⟩ : ∃ B, B = w.heap.size := ⟨_, rfl⟩
  have HB := Lib.hid hB
  rw [← hB]
  clear hB
  unfold FldsP
  go_enter Tryz.func27, Tryz.ntmps27
  go_wp2_with fail
  go_loopw [3, 4, 5] (fun o f i wr => ∃ (k fr : Nat) (ds : List (List UInt8)) (ov : Value), ov = o ∧ fr ≤ k ∧ i = .int .i64 k ∧ f = .int .i64 fr ∧ ds.length ≤ k ∧ Hid (wr.ownsRow B 9 1 ov ds.length (ds.map strV)) ∧ Hid (Below B w wr) ∧ ((k ≤ s.size ∧ Hid (wordsC 32 l = ds ++ wordsC 32 (l.drop fr) ∧ 32 ∉ (l.drop fr).take (k - fr))) ∨ (k = s.size + 1 ∧ Hid (wordsC 32 l = ds)))) (fun _ _ i _ => s.size + 1 - (intOf i).toNat)
  case atStart => exact ⟨0, 0, [], _, rfl, by omega, rfl, rfl, by simp, Lib.hid (World.ownsRow_nil _ _ _ _), Lib.hid (by rw [HB.out]; exact Below.refl _ _), .inl ⟨by omega, Lib.hid ⟨by simp, by simp⟩⟩⟩
  case round =>
    obtain ⟨k, fr, ds, ov, rfl, hf, rfl, rfl, hd, HO, G, hor⟩ := hrel
    have hBw : B ≤ wr.heap.size := by have := G.out.size; have := HB.out; omega
    have hfi : (fr : Int) ≤ (k : Int) := by omega
    have hfi0 : (0 : Int) ≤ (fr : Int) := by omega
    have hk0 : (0 : Int) ≤ (k : Int) := by omega
    rcases hor with ⟨hk, HW⟩ | ⟨rfl, HW⟩
    · have hk2 : (k : Int) ≤ (s.size : Int) := by omega
      by_cases hlt : k < s.size
      · have hlt2 : (k : Int) < (s.size : Int) := by omega
        have hne : ((k : Int) == (s.size : Int)) = false := by rw [beq_eq_false_iff_ne]; omega
        have ix := fun w' => idx_str (s := s) (x := (k : Int)) (j := k) rfl hlt w'
        have HBT := Lib.hid (show l[k]? = some (bt s k) by
          rw [HL.out]
          unfold bt
          rw [List.getD_eq_getElem?_getD, List.getElem?_eq_getElem (by simpa using hlt)]
          rfl)
        have hb8 := (bt s k).toNat_lt
        have HDK := Lib.hid (show (l.drop fr).drop (k - fr) = bt s k :: l.drop (k + 1) by
          rw [List.drop_drop, show fr + (k - fr) = k by omega]
          obtain ⟨g1, g2⟩ := List.getElem?_eq_some_iff.1 HBT.out
          rw [List.drop_eq_getElem_cons g1, g2])
        by_cases h32 : bt s k = 32
        · have t1 : (((bt s k).toNat : Int) == 32) = true := by rw [h32]; rfl
          have HU := Lib.hid (show Value.string (s.extract fr k) = strV ((l.drop fr).take (k - fr)) by rw [HL.out, strV, extract_sB])
          have HW2 := Lib.hid (show wordsC 32 l = ds ++ [(l.drop fr).take (k - fr)] ++ wordsC 32 (l.drop (k + 1)) by
            have h1 := HW.out.1
            rw [← List.take_append_drop (k - fr) (l.drop fr), HDK.out, h32, wordsC_cut HW.out.2] at h1
            rw [h1]
            simp)
          clear h32
          go_wp2_with (at_builtin; go_loud (refine wpList_append_own _ rfl _ _ 60 rfl B 9 i0 (.string ⟨#[]⟩) 1 16 Tryz.underlying60 HI0.out.1 HI0.out.2.1 HI0.out.2.2.1 HI0.out.2.2.2 rfl (by decide) ov ds.length (ds.map strV) rfl (HO.out.alloc _) ⟨wr.heap.size, 0, none⟩ 1 1 [.string (s.extract fr k)] rfl rfl (CellsAt.all (by simp [CellsAt, go_sem])) (by simp [Value.oneCell']) (by simp only [maxLen]; omega) (by omega) (by simp; omega) ?_))
          intro o' w5 ho hgr _
          have G5 := Lib.hid (show Below B w w5 from ((G.out.alloc hBw _).grown hgr (by simp; omega) (own_base HO.out)))
          have HO5 := Lib.hid (show w5.ownsRow B 9 1 o' (ds ++ [(l.drop fr).take (k - fr)]).length ((ds ++ [(l.drop fr).take (k - fr)]).map strV) by
            rw [List.map_append, List.length_append]
            rw [HU.out] at ho
            exact ho)
          clear ho hgr
          go_wp2_with fail
          go_roundw
          case rel => exact ⟨k + 1, k + 1, ds ++ [(l.drop fr).take (k - fr)], _, rfl, by omega, by go_num, by go_num, by simp; omega, HO5, G5, .inl ⟨by omega, Lib.hid ⟨HW2.out, by simp⟩⟩⟩
          case measure => simp [intOf]; omega
        · have t1 : (((bt s k).toNat : Int) == 32) = false := by
            rw [beq_eq_false_iff_ne]
            intro e
            exact h32 (UInt8.toNat_inj.1 (by simp; omega))
          have HW2 := Lib.hid (show 32 ∉ (l.drop fr).take (k + 1 - fr) by
            have h1 := HW.out.2
            rw [show k + 1 - fr = (k - fr) + 1 by omega, List.take_add_one]
            have h2 : (l.drop fr)[k - fr]? = some (bt s k) := by rw [List.getElem?_drop, show fr + (k - fr) = k by omega]; exact HBT.out
            rw [h2]
            simp only [Option.toList_some, List.mem_append, List.mem_singleton, not_or]
            exact ⟨h1, fun e => h32 e.symm⟩)
          clear h32
          go_wp2_with fail
          go_roundw
          case rel => exact ⟨k + 1, fr, ds, _, rfl, by omega, by go_num, rfl, by omega, HO, G, .inl ⟨by omega, Lib.hid ⟨HW.out.1, HW2.out⟩⟩⟩
          case measure => simp [intOf]; omega
      · obtain rfl : k = s.size := by omega
        have HW2 := Lib.hid (show wordsC 32 l = ds ++ [l.drop fr] by
          have h1 := HW.out.2
          rw [List.take_of_length_le (by rw [List.length_drop, HLN.out]; exact Nat.le_refl _)] at h1
          rw [HW.out.1, wordsC_no h1])
        have HU := Lib.hid (show Value.string (s.extract fr s.size) = strV (l.drop fr) by
          rw [strV, extract_sB, HL.out, List.take_of_length_le (by simp)])
        clear hlt
        go_wp2_with (at_builtin; go_loud (refine wpList_append_own _ rfl _ _ 60 rfl B 9 i0 (.string ⟨#[]⟩) 1 16 Tryz.underlying60 HI0.out.1 HI0.out.2.1 HI0.out.2.2.1 HI0.out.2.2.2 rfl (by decide) ov ds.length (ds.map strV) rfl (HO.out.alloc _) ⟨wr.heap.size, 0, none⟩ 1 1 [.string (s.extract fr s.size)] rfl rfl (CellsAt.all (by simp [CellsAt, go_sem])) (by simp [Value.oneCell']) (by simp only [maxLen]; omega) (by omega) (by simp; omega) ?_))
        intro o' w5 ho hgr _
        have G5 := Lib.hid (show Below B w w5 from ((G.out.alloc hBw _).grown hgr (by simp; omega) (own_base HO.out)))
        have HO5 := Lib.hid (show w5.ownsRow B 9 1 o' (ds ++ [l.drop fr]).length ((ds ++ [l.drop fr]).map strV) by
          rw [List.map_append, List.length_append]
          rw [HU.out] at ho
          exact ho)
        clear ho hgr
        go_wp2_with fail
        go_roundw
        case rel => exact ⟨s.size + 1, s.size + 1, ds ++ [l.drop fr], _, rfl, by omega, by go_num, by go_num, by simp; omega, HO5, G5, .inr ⟨rfl, Lib.hid HW2.out⟩⟩
        case measure => first | (simp [intOf]; done) | (simp [intOf]; omega)
    · have hgt : (s.size : Int) < ((s.size + 1 : Nat) : Int) := by omega
      go_wp2_with fail
      go_ret
      exact ⟨⟨_, rfl, by rw [HW.out]; exact HO.out⟩, G.out⟩
end Go.Proofs.YtneiljaknmeagaaGreatDoor
