/-
  How long the text of a stream is; the normal form without overflow: in plain words.
-/
import Derived.Test.YtbliilemjkjimaaDoorSu
namespace Go.Proofs.YtbliilemjkjimaaDoor
set_option linter.unusedVariables false
set_option linter.unusedSimpArgs false
theorem pr1_len (p : Pr) : (pr1 p).length = 5 := rfl
theorem out_len {d : Bool} {f : Int} (hf : 0 ≤ f) : ∀ (l : List Pr) (w : Bool) (i : Int), 0 ≤ i → (l ≠ [] → f + i + l.length - 1 < dayV d) → (outP (labT d f) w i l).length ≤ 17 * l.length
  | [], w, i, _, _ => by simp [outP]
  | p :: r, w, i, hi, hd => by
    have hd0 := hd (by simp)
    simp only [List.length_cons] at hd0
    have hr : ∀ w', (outP (labT d f) w' (i + 1) r).length ≤ 17 * r.length := fun w' => out_len hf r w' (i + 1) (by omega) (fun _ => by omega)
    have hl : (labT d f i).length = 11 := (txtL_no (labV_ok (d := d) (f := f + i) (by omega) (by omega)).1).2
    rw [outP]
    split
    · have := hr false
      simp only [List.length_cons]
      omega
    · have := hr true
      simp only [List.length_append, pr1_len, List.length_cons]
      split <;> simp only [List.length_nil, List.length_cons, hl] <;> omega
theorem outP_null {lab : Int → List UInt8} {w : Bool} {i : Int} {p : Pr} {l : List Pr} (h : isN p = true) : outP lab w i (p :: l) = outP lab false (i + 1) l := by rw [outP, if_pos h]
theorem outP_on {lab : Int → List UInt8} {i : Int} {p : Pr} {l : List Pr} (h : isN p = false) : outP lab true i (p :: l) = pr1 p ++ outP lab true (i + 1) l := by rw [outP, if_neg (by simp [h])]; rfl
theorem outP_off {lab : Int → List UInt8} {i : Int} {p : Pr} {l : List Pr} (h : isN p = false) : outP lab false i (p :: l) = 10 :: lab i ++ (pr1 p ++ outP lab true (i + 1) l) := by rw [outP, if_neg (by simp [h])]; rfl
end Go.Proofs.YtbliilemjkjimaaDoor
