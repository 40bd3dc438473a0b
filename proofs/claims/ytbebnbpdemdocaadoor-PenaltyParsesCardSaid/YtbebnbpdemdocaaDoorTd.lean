/-
  The contract of words of the reference. Its conditions are its hypotheses.
-/
import Derived.Test.YtbebnbpdemdocaaDoorTc
namespace Go.Proofs.YtbebnbpdemdocaaDoor
open Go.RowKit Go.Joins
set_option linter.unusedVariables false
set_option linter.unusedSimpArgs false
theorem info_parts {p : TypeId} {v : Value} {s b : Nat} (h : (Tryd.prog.info? p).map (fun i => (i.zero, i.size, i.bytes)) = some (some v, s, b)) :
    ∃ i0, Tryd.prog.info? p = some i0 ∧ i0.zero = some v ∧ i0.size = s ∧ i0.bytes = b := by
  cases hi : Tryd.prog.info? p with
  | none => rw [hi] at h; cases h
  | some i => rw [hi] at h; simp at h; exact ⟨i, rfl, h.1, h.2.1, h.2.2⟩
theorem own_base {w : World} {base : Nat} {e : TypeId} {size : Nat} {v : Value} {n : Nat} {xs : List Value} (h : w.ownsRow base e size v n xs) : ∀ k, v.ownBlock = some k → base ≤ k := by
  intro k hk
  rcases h.2 with ⟨rfl, _⟩ | ⟨g, cap, cur, rfl, hb, _⟩
  · simp [Value.ownBlock] at hk
  · simp [Value.ownBlock] at hk; omega
def bt (s : ByteArray) (j : Nat) : UInt8 := s.data.toList.getD j 0
theorem idx_str {s : ByteArray} {x : Int} {j : Nat} (hx : x = j) (hj : j < s.size) (w : World) : (Instr.index 9 (.string s) (.int .i64 x)).run Tryd.prog w = .ok (.int .u8 (bt s j).toNat) w := by
  subst hx
  have e : bt s j = s[j] := by
    unfold bt
    rw [List.getD_eq_getElem?_getD, List.getElem?_eq_getElem (by simpa using hj)]
    rfl
  rw [e]
  simp [go_sem, hj]
def strV (l : List UInt8) : Value := .string (sB l)
theorem i9 : (Tryd.prog.info? 9).map (fun i => (i.zero, i.size, i.bytes)) = some (some (.string ⟨#[]⟩), 1, 16) := by kernel_rfl
theorem extract_sB {s : ByteArray} {f k : Nat} : s.extract f k = sB ((s.data.toList.drop f).take (k - f)) := ByteArray.ext (by
  apply Array.ext'
  simp [sB, List.drop_take])
def RowsP (ls : List (List UInt8)) (B : Nat) (w : World) (e : Ending) (w' : World) : Prop := (∃ g c, e = .returned (.slice (some ⟨g, 0, none⟩) ls.length c) ∧ ls.length ≤ c ∧ c ≤ maxLen ∧ RowAt w' (some ⟨g, 0, none⟩) (ls.map strV)) ∧ Below B w w'
theorem RowsP.of {ls : List (List UInt8)} {B g n c : Nat} {w w' : World} (hn : n = ls.length) (h1 : ls.length ≤ c) (h2 : c ≤ maxLen) (hr : RowAt w' (some ⟨g, 0, none⟩) (ls.map strV)) (hb : Below B w w') : RowsP ls B w (.returned (.slice (some ⟨g, 0, none⟩) n c)) w' := ⟨⟨g, c, by rw [hn], h1, h2, hr⟩, hb⟩
set_option maxRecDepth 100000 in
set_option maxHeartbeats 1000000 in
theorem wordsr_any (s : ByteArray) (w : World) (hs : s.size ≤ 1000) :
    Calls Tryd.prog 23 #[.string s] w (RowsP (wordsC 32 s.data.toList) w.heap.size w) := by
  obtain ⟨i0, hi, hz0, hz1, hz2⟩ := info_parts i9
  have HI0 := Lib.hid (And.intro hi (And.intro hz0 (And.intro hz1 hz2)))
  clear hi hz0 hz1 hz2
  obtain ⟨l, hl⟩ : ∃ l, l = s.data.toList := ⟨_, rfl⟩
  have HL := Lib.hid hl
  have HLN := Lib.hid (show l.length = s.size by rw [hl]; simp)
  rw [← hl]
  clear hl
  obtain ⟨B, hB⟩ : ∃ B, B = w.heap.size := ⟨_, rfl⟩
  have HB := Lib.hid hB
  rw [← hB]
  go_enter Tryd.func23, Tryd.ntmps23
  go_wp2_with fail
  rw [← hB]
  generalize hw1 : World.alloc _ _ = w1
  have HO1 := Lib.hid (show w1.ownsRow B 9 1 (.slice (some ⟨B, 0, none⟩) 0 0) 0 [] by
    subst hw1; rw [hB]
    exact World.ownsRow_made w #[] 0 (Nat.le_refl _) (by simp) rfl)
  have FB1 := Lib.hid (show Below B w w1 by subst hw1; rw [hB]; exact below_one _ _)
  clear hw1 hB
  go_loopw [3, 4, 5] (fun o f i wr => ∃ (k fr : Nat) (ds : List (List UInt8)) (ov : Value), ov = o ∧ k ≤ s.size + 1 ∧ fr ≤ k ∧ i = .int .i64 k ∧ f = .int .i64 fr ∧ ds.length ≤ k ∧ Hid (wr.ownsRow B 9 1 ov ds.length (ds.map strV)) ∧ Hid (Below B w wr) ∧ Hid ((k ≤ s.size → wordsC 32 l = ds ++ wordsC 32 (l.drop fr) ∧ 32 ∉ (l.drop fr).take (k - fr)) ∧ (k = s.size + 1 → wordsC 32 l = ds))) (fun _ _ i _ => s.size + 1 - (intOf i).toNat)
  case atStart => exact ⟨0, 0, [], _, rfl, by omega, by omega, rfl, rfl, by simp, HO1, FB1, Lib.hid ⟨fun _ => ⟨by simp, by simp⟩, fun h => by omega⟩⟩
  case round =>
    obtain ⟨k, fr, ds, ov, rfl, hk, hf, rfl, rfl, hd, HO, G, HW⟩ := hrel
    have hBw : B ≤ wr.heap.size := by have := G.out.size; have := HB.out; omega
    have hfi : (fr : Int) ≤ (k : Int) := by omega
    have hfi0 : (0 : Int) ≤ (fr : Int) := by omega
    have hk0 : (0 : Int) ≤ (k : Int) := by omega
    by_cases hle : k ≤ s.size
    · have hle2 : (k : Int) ≤ (s.size : Int) := by omega
      by_cases hlt : k < s.size
      · have hlt2 : (k : Int) < (s.size : Int) := by omega
        have hne2 : ((k : Int) == (s.size : Int)) = false := by rw [beq_eq_false_iff_ne]; omega
        have hne3 : (k == s.size) = false := by rw [beq_eq_false_iff_ne]; omega
        have ix := fun w' => idx_str (s := s) (x := (k : Int)) (j := k) rfl hlt w'
        have HBT := Lib.hid (show l[k]? = some (bt s k) by
          rw [HL.out]
          unfold bt
          rw [List.getD_eq_getElem?_getD, List.getElem?_eq_getElem (by simpa using hlt)]
          rfl)
        have hb8 := (bt s k).toNat_lt
        have HDK := Lib.hid (show (l.drop fr).drop (k - fr) = bt s k :: l.drop (k + 1) by
          rw [List.drop_drop, show fr + (k - fr) = k by omega]
          obtain ⟨g1, g2⟩ := List.getElem?_eq_some_iff.1 HBT.out
          rw [List.drop_eq_getElem_cons g1, g2])
        by_cases h10 : bt s k = 32
        · have t1 : (((bt s k).toNat : Int) == 32) = true := by rw [h10]; rfl
          have HU := Lib.hid (show Value.string (s.extract fr k) = strV ((l.drop fr).take (k - fr)) by rw [HL.out, strV, extract_sB])
          have HW2 := Lib.hid (show wordsC 32 l = ds ++ [(l.drop fr).take (k - fr)] ++ wordsC 32 (l.drop (k + 1)) by
            have h0 := HW.out.1 hle
            have h1 := h0.1
            rw [← List.take_append_drop (k - fr) (l.drop fr), HDK.out, h10, wordsC_cut h0.2] at h1
            rw [h1]
            simp)
          clear h10
          go_wp2_with (at_builtin; go_loud (refine wpList_append_own _ rfl _ _ 47 rfl B 9 i0 (.string ⟨#[]⟩) 1 16 Tryd.underlying47 HI0.out.1 HI0.out.2.1 HI0.out.2.2.1 HI0.out.2.2.2 rfl (by decide) ov ds.length (ds.map strV) rfl (HO.out.alloc _) ⟨wr.heap.size, 0, none⟩ 1 1 [.string (s.extract fr k)] rfl rfl (CellsAt.all (by simp [CellsAt, go_sem])) (by simp [Value.oneCell']) (by simp only [maxLen]; omega) (by omega) (by simp; omega) ?_))
          intro o' w5 ho hgr _
          have G5 := Lib.hid (show Below B w w5 from ((G.out.alloc hBw _).grown hgr (by simp; omega) (own_base HO.out)))
          have HO5 := Lib.hid (show w5.ownsRow B 9 1 o' (ds ++ [(l.drop fr).take (k - fr)]).length ((ds ++ [(l.drop fr).take (k - fr)]).map strV) by
            rw [List.map_append, List.length_append]
            rw [HU.out] at ho
            exact ho)
          clear ho hgr
          go_wp2_with fail
          go_roundw
          case rel => exact ⟨k + 1, k + 1, ds ++ [(l.drop fr).take (k - fr)], _, rfl, by omega, by omega, by go_num, by go_num, by simp; omega, HO5, G5, Lib.hid ⟨fun _ => ⟨HW2.out, by simp⟩, fun h => by omega⟩⟩
          case measure => simp [intOf]; omega
        · have t1 : (((bt s k).toNat : Int) == 32) = false := by
            rw [beq_eq_false_iff_ne]
            intro e
            exact h10 (UInt8.toNat_inj.1 (by simp; omega))
          have HW2 := Lib.hid (show 32 ∉ (l.drop fr).take (k + 1 - fr) by
            have h1 := (HW.out.1 hle).2
            rw [show k + 1 - fr = (k - fr) + 1 by omega, List.take_add_one]
            have h2 : (l.drop fr)[k - fr]? = some (bt s k) := by rw [List.getElem?_drop, show fr + (k - fr) = k by omega]; exact HBT.out
            rw [h2]
            simp only [Option.toList_some, List.mem_append, List.mem_singleton, not_or]
            exact ⟨h1, fun e => h10 e.symm⟩)
          clear h10
          go_wp2_with fail
          go_roundw
          case rel => exact ⟨k + 1, fr, ds, _, rfl, by omega, by omega, by go_num, rfl, by omega, HO, G, Lib.hid ⟨fun _ => ⟨(HW.out.1 hle).1, HW2.out⟩, fun h => by omega⟩⟩
          case measure => simp [intOf]; omega
      · obtain rfl : k = s.size := by omega
        have HW2 := Lib.hid (show wordsC 32 l = ds ++ [l.drop fr] by
          have h0 := HW.out.1 (Nat.le_refl _)
          have h1 := h0.2
          rw [List.take_of_length_le (by rw [List.length_drop, HLN.out]; exact Nat.le_refl _)] at h1
          rw [h0.1, wordsC_no h1])
        have HU := Lib.hid (show Value.string (s.extract fr s.size) = strV (l.drop fr) by
          rw [strV, extract_sB, HL.out, List.take_of_length_le (by simp)])
        have hne2 : ((s.size : Int) == (s.size : Int)) = true := by simp
        clear hlt
        go_wp2_with (at_builtin; go_loud (refine wpList_append_own _ rfl _ _ 47 rfl B 9 i0 (.string ⟨#[]⟩) 1 16 Tryd.underlying47 HI0.out.1 HI0.out.2.1 HI0.out.2.2.1 HI0.out.2.2.2 rfl (by decide) ov ds.length (ds.map strV) rfl (HO.out.alloc _) ⟨wr.heap.size, 0, none⟩ 1 1 [.string (s.extract fr s.size)] rfl rfl (CellsAt.all (by simp [CellsAt, go_sem])) (by simp [Value.oneCell']) (by simp only [maxLen]; omega) (by omega) (by simp; omega) ?_))
        intro o' w5 ho hgr _
        have G5 := Lib.hid (show Below B w w5 from ((G.out.alloc hBw _).grown hgr (by simp; omega) (own_base HO.out)))
        have HO5 := Lib.hid (show w5.ownsRow B 9 1 o' (ds ++ [l.drop fr]).length ((ds ++ [l.drop fr]).map strV) by
          rw [List.map_append, List.length_append]
          rw [HU.out] at ho
          exact ho)
        clear ho hgr
        go_wp2_with fail
        go_roundw
        case rel => exact ⟨s.size + 1, s.size + 1, ds ++ [l.drop fr], _, rfl, by omega, by omega, by go_num, by go_num, by simp; omega, HO5, G5, Lib.hid ⟨fun h => by omega, fun _ => HW2.out⟩⟩
        case measure => simp [intOf]
    · obtain rfl : k = s.size + 1 := by omega
      have hle2 : ¬ ((s.size : Int) + 1 ≤ (s.size : Int)) := by omega
      have HE := Lib.hid (HW.out.2 rfl)
      have HF := Lib.hid (show 0 < ds.length by
        rw [← HE.out]
        exact List.length_pos_iff.2 (words_ne 32 l))
      obtain ⟨g9, c9, rfl, hg9, hg8⟩ := HO.out.form HF.out
      obtain ⟨A9, c8, e9, r9, hn9, hm9, _⟩ := row_of_own HO.out
      cases e9
      have HR := Lib.hid (And.intro hn9 (And.intro hm9 r9))
      clear r9 hn9 hm9 hle
      go_wp2_with fail
      go_ret
      exact RowsP.of (by rw [HE.out]) (by rw [HE.out]; exact HR.out.1) HR.out.2.1 (by rw [HE.out]; exact HR.out.2.2) G.out
end Go.Proofs.YtbebnbpdemdocaaDoor
