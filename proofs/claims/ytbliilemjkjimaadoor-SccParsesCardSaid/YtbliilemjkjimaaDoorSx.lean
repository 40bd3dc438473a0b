/-
  The lines of a text, one by one; the errors of a line: in plain words.
-/
import Derived.Test.YtbliilemjkjimaaDoorSw
namespace Go.Proofs.YtbliilemjkjimaaDoor
set_option linter.unusedVariables false
set_option linter.unusedSimpArgs false
theorem addW_le {b : UInt8} {n : Nat} : ∀ {ws : List (List UInt8)}, (∀ w ∈ ws, w.length ≤ n) → ∀ w ∈ addW b ws, w.length ≤ n + 1
  | [], _, w, h => by simp [addW] at h; subst h; simp
  | v :: vs, hv, w, h => by
    simp only [addW, List.mem_cons] at h
    rcases h with rfl | h
    · have := hv v (by simp)
      simp; omega
    · have := hv w (by simp [h])
      omega
theorem words_le (c : UInt8) : ∀ (l : List UInt8), ∀ w ∈ wordsC c l, w.length ≤ l.length
  | [], w, h => by simp [wordsC] at h; subst h; simp
  | b :: r, w, h => by
    rw [wordsC] at h
    have ih := words_le c r
    split at h
    · simp only [List.mem_cons] at h
      rcases h with rfl | h
      · simp
      · have := ih w h
        simp; omega
    · have := addW_le ih w h
      simpa using this
theorem addW_len (b : UInt8) (ws : List (List UInt8)) : (addW b ws).length ≤ ws.length + 1 := by cases ws <;> simp [addW]
theorem addW_ne (b : UInt8) (ws : List (List UInt8)) : addW b ws ≠ [] := by cases ws <;> simp [addW]
theorem words_ne (c : UInt8) : ∀ (l : List UInt8), wordsC c l ≠ []
  | [] => by simp [wordsC]
  | b :: r => by
    rw [wordsC]
    split
    · simp
    · exact addW_ne _ _
theorem lineV_err {r : Rd} {s : List UInt8} {c k : Int} (h : lineV r s = .error (c, k)) : (k != 0) = true := by
  unfold lineV at h
  split at h
  · cases h; rfl
  · split at h
    · cases h; rfl
    · split at h
      · cases h; rfl
      · split at h
        · cases h; rfl
        · simp only [] at h
          generalize (if r.begun = true then r.first else frmV _) = F at h
          split at h
          · cases h; rfl
          · split at h
            · cases h; rfl
            · cases h
/-- Where a reader stands ahead of line k (from 0), of all lines t behind the first one. -/
def Reads31 (t : List (List UInt8)) (k : Nat) (r : Rd) : Prop := linesV 2 rd0 t = linesV (if k = 0 then 2 else (k : Int) + 1) r (t.drop (k - 1)) ∧ (k = 0 → r = rd0) ∧ Good r
theorem good0 : Good rd0 := ⟨by simp [rd0], fun _ => ⟨rfl, rfl⟩, by simp [rd0]⟩
theorem Reads31.start (t : List (List UInt8)) : Reads31 t 0 rd0 := ⟨by simp, fun _ => rfl, good0⟩
theorem Reads31.first {t : List (List UInt8)} {r : Rd} (h : Reads31 t 0 r) : Reads31 t 1 r := by
  refine ⟨?_, by simp, h.2.2⟩
  rw [h.1]
  rfl
theorem Reads31.skip {t : List (List UInt8)} {k : Nat} {r : Rd} (h : Reads31 t k r) (hk : 1 ≤ k) (hl : t[k - 1]? = some []) : Reads31 t (k + 1) r := by
  refine ⟨?_, by simp, h.2.2⟩
  obtain ⟨h1, h2⟩ := List.getElem?_eq_some_iff.1 hl
  rw [h.1, if_neg (by omega), if_neg (by omega), List.drop_eq_getElem_cons h1, h2, linesV_nil, show k - 1 + 1 = k + 1 - 1 from by omega]
  congr 1
theorem Reads31.next {t : List (List UInt8)} {k : Nat} {r r' : Rd} {s : List UInt8} (h : Reads31 t k r) (hk : 1 ≤ k) (hl : t[k - 1]? = some s) (hs : s ≠ []) (hv : lineV r s = .ok r') : Reads31 t (k + 1) r' := by
  refine ⟨?_, by simp, line_good h.2.2 hv⟩
  obtain ⟨h1, h2⟩ := List.getElem?_eq_some_iff.1 hl
  rw [h.1, if_neg (by omega), if_neg (by omega), List.drop_eq_getElem_cons h1, h2, linesV_ok hs hv, show k - 1 + 1 = k + 1 - 1 from by omega]
  congr 1
theorem Reads31.fail {t : List (List UInt8)} {k : Nat} {r : Rd} {s : List UInt8} {c e : Int} (h : Reads31 t k r) (hk : 1 ≤ k) (hl : t[k - 1]? = some s) (hs : s ≠ []) (hv : lineV r s = .error (c, e)) : linesV 2 rd0 t = .error ((k : Int) + 1, c, e) := by
  obtain ⟨h1, h2⟩ := List.getElem?_eq_some_iff.1 hl
  rw [h.1, if_neg (by omega), List.drop_eq_getElem_cons h1, h2, linesV, if_neg hs, hv]
theorem Reads31.done {t : List (List UInt8)} {k : Nat} {r : Rd} (h : Reads31 t k r) (hk : t.length < k) : linesV 2 rd0 t = .ok r := by
  rw [h.1, List.drop_of_length_le (by omega)]; rfl
end Go.Proofs.YtbliilemjkjimaaDoor
