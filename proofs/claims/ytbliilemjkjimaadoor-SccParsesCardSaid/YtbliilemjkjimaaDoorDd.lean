/-
  The contracts of pairs and failed of the reference of layer 31. Their conditions are their hypotheses.
-/
import Derived.Test.YtbliilemjkjimaaDoorDc
namespace Go.Proofs.YtbliilemjkjimaaDoor
open Go.RowKit Go.Joins
set_option linter.unusedVariables false
set_option linter.unusedSimpArgs false
def PairsP (l : List UInt8) (B : Nat) (w : World) (e : Ending) (w' : World) : Prop :=
  (match prV l with
    | .ok p => ∃ v, e = .returned (.tuple #[v, .int .i64 (-1)]) ∧ w'.ownsRow B 5 1 v (2 * p.length) ((flat p).map byteV)
    | .error k => e = .returned (.tuple #[.slice none 0 0, .int .i64 k])) ∧ Below B w w'
theorem PairsP.bad {l : List UInt8} {B k : Nat} {w w' : World} (h : prV l = .error k) (hb : Below B w w') : PairsP l B w (.returned (.tuple #[.slice none 0 0, .int .i64 k])) w' := by
  refine ⟨?_, hb⟩
  rw [h]
theorem PairsP.good {l : List UInt8} {B : Nat} {w w' : World} {p : List Pr} {v : Value} (h : prV l = .ok p) (hr : w'.ownsRow B 5 1 v (2 * p.length) ((flat p).map byteV)) (hb : Below B w w') : PairsP l B w (.returned (.tuple #[v, .int .i64 (-1)])) w' := by
  refine ⟨?_, hb⟩
  rw [h]
  exact ⟨v, rfl, hr⟩
theorem valV_hv (c : UInt8) : (valV c < 0 ∧ hv c = none) ∨ ∃ x : Nat, valV c = x ∧ hv c = some x ∧ x ≤ 15 := by
  unfold valV
  cases h : hv c with
  | none => exact .inl ⟨by decide, rfl⟩
  | some x =>
    refine .inr ⟨x, rfl, rfl, ?_⟩
    unfold hv at h
    split at h
    · cases h; omega
    · split at h
      · cases h; omega
      · cases h
theorem bv_none_l {a b : UInt8} (h : hv a = none) : bv a b = none := by rw [bv, h]
theorem bv_none_r {a b : UInt8} (h : hv b = none) : bv a b = none := by
  rw [bv, h]
  cases hv a <;> rfl
theorem bv_some {a b : UInt8} {x y : Nat} (h1 : hv a = some x) (h2 : hv b = some y) : bv a b = some (UInt8.ofNat (16 * x + y)) := by rw [bv, h1, h2]
/-- What stands from place i on, five bytes. -/
theorem drop_five {s : ByteArray} {i : Nat} (h : i + 5 ≤ s.size) : s.data.toList.drop i = bt s i :: bt s (i + 1) :: bt s (i + 2) :: bt s (i + 3) :: bt s (i + 4) :: s.data.toList.drop (i + 5) := by
  have e : ∀ j, j < s.size → s.data.toList.drop j = bt s j :: s.data.toList.drop (j + 1) := fun j hj => by
    rw [List.drop_eq_getElem_cons (by simpa using hj)]
    unfold bt
    rw [List.getD_eq_getElem?_getD, List.getElem?_eq_getElem (by simpa using hj)]
    rfl
  rw [e i (by omega), e (i + 1) (by omega), e (i + 2) (by omega), e (i + 3) (by omega), e (i + 4) (by omega)]
/-- Where the reader of pairs stands. -/
def PrAt (s : ByteArray) (i : Nat) (Q : List Pr) : Prop := prL 0 s.data.toList = (prL i (s.data.toList.drop i)).map (Q ++ ·)
theorem PrAt.start (s : ByteArray) : PrAt s 0 [] := by
  unfold PrAt
  cases h : prL 0 s.data.toList <;> simp [Except.map, h]
theorem PrAt.fail {s : ByteArray} {i : Nat} {Q : List Pr} (h : PrAt s i Q) (he : prL i (s.data.toList.drop i) = .error i) : prL 0 s.data.toList = .error i := by rw [h, he]; rfl
theorem PrAt.next {s : ByteArray} {i : Nat} {Q : List Pr} {u v : UInt8} (h : PrAt s i Q) (h5 : i + 5 ≤ s.size) (h0 : bt s i = 32) (h1 : bv (bt s (i + 1)) (bt s (i + 2)) = some u) (h2 : bv (bt s (i + 3)) (bt s (i + 4)) = some v) : PrAt s (i + 5) (Q ++ [(u, v)]) := by
  unfold PrAt at *
  rw [h, drop_five h5, prL, if_pos h0, h1, h2]
  simp only []
  cases prL (i + 5) (s.data.toList.drop (i + 5)) <;> simp [Except.map]
theorem PrAt.done {s : ByteArray} {i : Nat} {Q : List Pr} (h : PrAt s i Q) (hi : s.size ≤ i) : prL 0 s.data.toList = .ok Q := by
  rw [h, List.drop_of_length_le (by simpa using hi), prL]
  simp [Except.map]
theorem prL_short {s : ByteArray} {i : Nat} (h1 : i < s.size) (h2 : s.size < i + 5) : prL i (s.data.toList.drop i) = .error i := by
  have hl : (s.data.toList.drop i).length < 5 ∧ 0 < (s.data.toList.drop i).length := by simp; omega
  match hd : s.data.toList.drop i, hl with
  | [_], _ => rfl
  | [_, _], _ => rfl
  | [_, _, _], _ => rfl
  | [_, _, _, _], _ => rfl
  | [], h => simp at h
  | _ :: _ :: _ :: _ :: _ :: _, h => simp at h; omega
theorem prL_blank {s : ByteArray} {i : Nat} (h5 : i + 5 ≤ s.size) (h0 : bt s i ≠ 32) : prL i (s.data.toList.drop i) = .error i := by rw [drop_five h5, prL, if_neg h0]
theorem prL_digit {s : ByteArray} {i : Nat} (h5 : i + 5 ≤ s.size) (h : bv (bt s (i + 1)) (bt s (i + 2)) = none ∨ bv (bt s (i + 3)) (bt s (i + 4)) = none) : prL i (s.data.toList.drop i) = .error i := by
  rw [drop_five h5, prL]
  split
  · rcases h with h | h
    · rw [h]
    · rw [h]; cases bv (bt s (i + 1)) (bt s (i + 2)) <;> rfl
  · rfl
theorem failed_any (l c e0 : Int) (w : World) :
    Calls Tryd.prog 40 #[.int .i64 l, .int .i64 c, .int .i64 e0] w fun e w' => (∃ g, w.heap.size ≤ g ∧ e = .returned (.tuple #[strm 0 none 0 0, .slice (some ⟨g, 0, none⟩) 1 1]) ∧ RowAt w' (some ⟨g, 0, none⟩) [.int .i64 l, .int .i64 c, .int .i64 e0]) ∧ Below w.heap.size w w' := by
  go_enter Tryd.func40, Tryd.ntmps40
  go_wp2_with fail
  refine bodyPost_ret (by simp [results, Tryd.results40, go_sem]; try rfl) rfl ?_
  refine ⟨⟨w.heap.size + 1, by omega, rfl, ?_⟩, ?_⟩
  · exact row_of_cells (by simp [CellsAt, go_sem])
  · exact (below_one _ _).alloc (by simp) _
end Go.Proofs.YtbliilemjkjimaaDoor
