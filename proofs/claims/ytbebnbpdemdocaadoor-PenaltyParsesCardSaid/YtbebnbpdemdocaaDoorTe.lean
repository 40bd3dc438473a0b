/-
  The contract of Parse of the program. Its conditions are its hypotheses.
-/
import Derived.Test.YtbebnbpdemdocaaDoorTd
namespace Go.Proofs.YtbebnbpdemdocaaDoor
open Go.RowKit Go.Joins
set_option linter.unusedVariables false
set_option linter.unusedSimpArgs false
abbrev Mx (w : World) : Prop := ∃ m, w.cell? ⟨Tryd.laysM146_ren.g 1, 0, none⟩ = some (.int .i64 m)
theorem Mx.on {w w' : World} (h : Mx w) (hb : Below w.heap.size w w') : Mx w' := by
  obtain ⟨m, hm⟩ := h
  exact ⟨m, (hb.cell (World.block_lt_of_cell? w _ hm)).trans hm⟩
def linesB (s : ByteArray) : List ByteArray := Lib.splitB ⟨#[32]⟩ 0 (Lib.countB s ⟨#[32]⟩) s
theorem linesB_len (s : ByteArray) : (linesB s).length = Lib.countB s ⟨#[32]⟩ + 1 := Lib.splitB_all ⟨#[32]⟩ (by decide) 0 _ s rfl
theorem linesB_words (s : ByteArray) : (linesB s).map (·.data.toList) = wordsC 32 s.data.toList := split_wordsC 32 s
theorem words_len (c : UInt8) : ∀ (l : List UInt8), (wordsC c l).length ≤ l.length + 1
  | [] => by simp [wordsC]
  | b :: r => by
    have ih := words_len c r
    have hne := words_ne c r
    rw [wordsC]
    generalize wordsC c r = ws at *
    match ws, hne with
    | h2 :: t2, _ =>
      split
      · simp at ih ⊢; omega
      · rw [addW]; simp at ih ⊢; omega
theorem split_any (s : ByteArray) (w : World) (hs : s.size < 4294967281) (hm : Mx w) :
    Calls Tryd.prog 21 #[.string s, .string ⟨#[32]⟩] w (RowsP (wordsC 32 s.data.toList) w.heap.size w) := by
  obtain ⟨m, hm⟩ := hm
  have h := Any.strings_Split { Tryd.laysM146 with } Tryd.laysM146.i9 s ⟨#[32]⟩ m w hs hm (by decide)
  refine h.mono ?_
  rintro e w' ⟨rfl, rfl⟩
  have e1 : Lib.countB s ⟨#[32]⟩ + 1 = (wordsC 32 s.data.toList).length := by rw [← linesB_words, List.length_map, linesB_len]
  have e2 : (linesB s).map Value.string = (wordsC 32 s.data.toList).map strV := by
    rw [← linesB_words, List.map_map]
    refine List.map_congr_left fun x _ => ?_
    show Value.string x = .string (sB x.data.toList)
    rw [sB_of]
  rw [e1]
  refine RowsP.of rfl (Nat.le_refl _) ?_ ?_ (below_one _ _)
  · have := words_len 32 s.data.toList
    rw [len_data] at this
    simp only [maxLen]
    omega
  · rw [← e2]
    intro k u hk
    refine ⟨_, _, rfl, ?_⟩
    rw [Nat.zero_add, cell_of_block (heap_at w _ rfl)]
    simpa [linesB] using hk
/-- What Parse gives. -/
def tblV (cs : List Int) : Value := .agg (cs.map (Value.int .i64)).toArray
def zero12 : List Int := [0, 0, 0, 0, 0, 0, 0, 0, 0, 0, 0, 0]
def TabP (l : List UInt8) (B : Nat) (w : World) (e : Ending) (w' : World) : Prop :=
  (match parseP l with
    | .ok cs => e = .returned (.tuple #[tblV cs, .int .i64 0])
    | .error k => e = .returned (.tuple #[tblV zero12, .int .i64 k])) ∧ Below B w w'
theorem TabP.bad {l : List UInt8} {B : Nat} {w w' : World} {k : Int} (h : parseP l = .error k) (hb : Below B w w') : TabP l B w (.returned (.tuple #[tblV zero12, .int .i64 k])) w' := by
  refine ⟨?_, hb⟩
  rw [h]
theorem TabP.good {l : List UInt8} {B : Nat} {w w' : World} {cs : List Int} (h : parseP l = .ok cs) (hb : Below B w w') : TabP l B w (.returned (.tuple #[tblV cs, .int .i64 0])) w' := by
  refine ⟨?_, hb⟩
  rw [h]
theorem parse_len (s : ByteArray) (w : World) (hs : s.size ≤ 1000) (hm : Mx w) (hl : (wordsC 32 s.data.toList).length ≠ 13) :
    Calls Tryd.prog 8 #[.string s] w (TabP s.data.toList w.heap.size w) := by
  have HSP := Lib.hid (fun (w' : World) (hm' : Mx w') => split_any s w' (by omega) hm')
  have HM := Lib.hid hm
  have HE := Lib.hid (show parseP s.data.toList = .error 4 by
    unfold parseP
    split
    · rename_i h t hw
      rw [if_neg]
      rintro ⟨h1, _⟩
      rw [hw, List.length_cons] at hl
      omega
    · rfl)
  clear hm
  obtain ⟨B, hB⟩ : ∃ B, B = w.heap.size := ⟨_, rfl⟩
  rw [← hB]
  go_enter Tryd.func8, Tryd.ntmps8
  go_wp2_with fail
  rw [← hB]
  generalize hw1 : World.alloc _ _ = w1
  have H2 := Lib.hid (show Held w1 B (zero12.map (Value.int .i64)) by subst hw1; exact Held.new hB)
  have FB := Lib.hid (show Below B w w1 by subst hw1; subst hB; exact below_one _ _)
  have HM1 := Lib.hid (show Mx w1 from HM.out.on (hB ▸ FB.out))
  clear hw1 hB
  refine (HSP.out _ HM1.out).mono ?_
  rintro e w2 ⟨⟨g4, c4, rfl, h4, h5, hr4⟩, hb⟩
  generalize wordsC 32 s.data.toList = W at *
  have hn : ((W.length : Int) != 13) = true := by simp; omega
  have hn2 : (W.length != 13) = true := by simpa using hl
  have H3 := Lib.hid (H2.out.ext hb)
  have FB2 := Lib.hid (FB.out.trans (hb.mono (Nat.le_of_lt H2.out.lt)))
  clear hb H2 HM1 HSP
  have q := H3.out.cell
  have y := H3.out.free
  unfold zero12 at q
  simp only [List.map_cons, List.map_nil] at q
  have hBw : B < w2.heap.size := H3.out.lt
  go_wp2_with (with_reducible refine stop_at ?_)
  unfold StopAt
  have r := Lib.hid (((((((((((((H3.out).set 0 (.int .i64 0)).set 1 (.int .i64 0)).set 2 (.int .i64 0)).set 3 (.int .i64 0)).set 4 (.int .i64 0)).set 5 (.int .i64 0)).set 6 (.int .i64 0)).set 7 (.int .i64 0)).set 8 (.int .i64 0)).set 9 (.int .i64 0)).set 10 (.int .i64 0)).set 11 (.int .i64 0))
  have rb := Lib.hid (((((((((((((FB2.out).setCell (p := ⟨B, 0, none⟩) (by simp) (.int .i64 0)).setCell (p := ⟨B, 1, none⟩) (by simp) (.int .i64 0)).setCell (p := ⟨B, 2, none⟩) (by simp) (.int .i64 0)).setCell (p := ⟨B, 3, none⟩) (by simp) (.int .i64 0)).setCell (p := ⟨B, 4, none⟩) (by simp) (.int .i64 0)).setCell (p := ⟨B, 5, none⟩) (by simp) (.int .i64 0)).setCell (p := ⟨B, 6, none⟩) (by simp) (.int .i64 0)).setCell (p := ⟨B, 7, none⟩) (by simp) (.int .i64 0)).setCell (p := ⟨B, 8, none⟩) (by simp) (.int .i64 0)).setCell (p := ⟨B, 9, none⟩) (by simp) (.int .i64 0)).setCell (p := ⟨B, 10, none⟩) (by simp) (.int .i64 0)).setCell (p := ⟨B, 11, none⟩) (by simp) (.int .i64 0))
  generalize World.setCell _ _ _ = w9 at *
  have rc := r.out.cell
  unfold zero12 at rc
  simp only [List.map_cons, List.map_nil, List.set_cons_zero, List.set_cons_succ] at rc
  clear q y
  refine bodyPost_ret (v := .tuple #[tblV zero12, .int .i64 4]) (by simp [results, Tryd.results8, rc, go_sem, tblV, zero12]; try rfl) rfl ?_
  exact TabP.bad HE.out rb.out
theorem parse_head (s : ByteArray) (w : World) (hs : s.size ≤ 1000) (hm : Mx w) (h0 : List UInt8) (t0 : List (List UInt8)) (hw0 : wordsC 32 s.data.toList = h0 :: t0) (hl : t0.length = 12) (hh : h0 ≠ headP) :
    Calls Tryd.prog 8 #[.string s] w (TabP s.data.toList w.heap.size w) := by
  have HSP := Lib.hid (fun (w' : World) (hm' : Mx w') => split_any s w' (by omega) hm')
  have HM := Lib.hid hm
  have HE := Lib.hid (show parseP s.data.toList = .error 4 by
    unfold parseP
    rw [hw0]
    simp only []
    rw [if_neg (fun h => hh h.2)])
  rw [hw0] at HSP
  have tn : (!(sB h0).toList == [80, 69, 78, 65, 76, 84, 73, 69, 83]) = true := by
    rw [Lib.toList_data]
    simp only [Bool.not_eq_true', beq_eq_false_iff_ne, ne_eq]
    exact hh
  clear hm
  obtain ⟨B, hB⟩ : ∃ B, B = w.heap.size := ⟨_, rfl⟩
  rw [← hB]
  go_enter Tryd.func8, Tryd.ntmps8
  go_wp2_with fail
  rw [← hB]
  generalize hw1 : World.alloc _ _ = w1
  have H2 := Lib.hid (show Held w1 B (zero12.map (Value.int .i64)) by subst hw1; exact Held.new hB)
  have FB := Lib.hid (show Below B w w1 by subst hw1; subst hB; exact below_one _ _)
  have HM1 := Lib.hid (show Mx w1 from HM.out.on (hB ▸ FB.out))
  clear hw1 hB
  refine (HSP.out _ HM1.out).mono ?_
  rintro e w2 ⟨⟨g4, c4, rfl, h4, h5, hr4⟩, hb⟩
  rw [List.length_cons, hl] at h4 ⊢
  obtain ⟨b0, o0, e0, c0⟩ := hr4 0 (strV h0) (by simp)
  cases e0
  unfold strV at c0
  rw [Nat.add_zero] at c0
  have H3 := Lib.hid (H2.out.ext hb)
  have FB2 := Lib.hid (FB.out.trans (hb.mono (Nat.le_of_lt H2.out.lt)))
  clear hb H2 HM1 HSP
  have q := H3.out.cell
  have y := H3.out.free
  unfold zero12 at q
  simp only [List.map_cons, List.map_nil] at q
  have hBw : B < w2.heap.size := H3.out.lt
  go_wp2_with (with_reducible refine stop_at ?_)
  unfold StopAt
  have r := Lib.hid (((((((((((((H3.out).set 0 (.int .i64 0)).set 1 (.int .i64 0)).set 2 (.int .i64 0)).set 3 (.int .i64 0)).set 4 (.int .i64 0)).set 5 (.int .i64 0)).set 6 (.int .i64 0)).set 7 (.int .i64 0)).set 8 (.int .i64 0)).set 9 (.int .i64 0)).set 10 (.int .i64 0)).set 11 (.int .i64 0))
  have rb := Lib.hid (((((((((((((FB2.out).setCell (p := ⟨B, 0, none⟩) (by simp) (.int .i64 0)).setCell (p := ⟨B, 1, none⟩) (by simp) (.int .i64 0)).setCell (p := ⟨B, 2, none⟩) (by simp) (.int .i64 0)).setCell (p := ⟨B, 3, none⟩) (by simp) (.int .i64 0)).setCell (p := ⟨B, 4, none⟩) (by simp) (.int .i64 0)).setCell (p := ⟨B, 5, none⟩) (by simp) (.int .i64 0)).setCell (p := ⟨B, 6, none⟩) (by simp) (.int .i64 0)).setCell (p := ⟨B, 7, none⟩) (by simp) (.int .i64 0)).setCell (p := ⟨B, 8, none⟩) (by simp) (.int .i64 0)).setCell (p := ⟨B, 9, none⟩) (by simp) (.int .i64 0)).setCell (p := ⟨B, 10, none⟩) (by simp) (.int .i64 0)).setCell (p := ⟨B, 11, none⟩) (by simp) (.int .i64 0))
  generalize World.setCell _ _ _ = w9 at *
  have rc := r.out.cell
  unfold zero12 at rc
  simp only [List.map_cons, List.map_nil, List.set_cons_zero, List.set_cons_succ] at rc
  clear q y
  refine bodyPost_ret (v := .tuple #[tblV zero12, .int .i64 4]) (by simp [results, Tryd.results8, rc, go_sem, tblV, zero12]; try rfl) rfl ?_
  exact TabP.bad HE.out rb.out
end Go.Proofs.YtbebnbpdemdocaaDoor
