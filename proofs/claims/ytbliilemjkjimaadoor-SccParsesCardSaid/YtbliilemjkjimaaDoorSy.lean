/-
  The text of a stream that was read is short: in plain words.
-/
import Derived.Test.YtbliilemjkjimaaDoorSx
import Derived.Test.YtbliilemjkjimaaDoorSv
namespace Go.Proofs.YtbliilemjkjimaaDoor
set_option linter.unusedVariables false
set_option linter.unusedSimpArgs false
/-- The pairs that are not null. -/
def nn (l : List Pr) : Nat := l.countP fun p => !isN p
theorem nn_cons (p : Pr) (l : List Pr) : nn (p :: l) = nn l + if isN p = true then 0 else 1 := by
  unfold nn
  rw [List.countP_cons]
  cases isN p <;> simp
theorem nn_app (l r : List Pr) : nn (l ++ r) = nn l + nn r := by unfold nn; rw [List.countP_append]
theorem nn_len (l : List Pr) : nn l ≤ l.length := List.countP_le_length
theorem nn_nuls (n : Nat) : nn (nuls n) = 0 := by
  unfold nn nuls
  rw [List.countP_eq_zero]
  intro p hp
  rw [List.eq_of_mem_replicate hp]
  decide
theorem nn_mid (l : List Pr) : nn (mid l) = nn l := by
  conv => rhs; rw [lead_split l, nn_app, nn_nuls, (trim_nuls (l.dropWhile isN)).1, nn_app, nn_nuls]
  unfold mid
  omega
theorem out_short {d : Bool} {f : Int} (hf : 0 ≤ f) : ∀ (l : List Pr) (w : Bool) (i : Int), 0 ≤ i → (l ≠ [] → f + i + l.length - 1 < dayV d) → (outP (labT d f) w i l).length ≤ 17 * nn l
  | [], w, i, _, _ => by simp [outP, nn]
  | p :: r, w, i, hi, hd => by
    have hd0 := hd (by simp)
    simp only [List.length_cons] at hd0
    have hr : ∀ w', (outP (labT d f) w' (i + 1) r).length ≤ 17 * nn r := fun w' => out_short hf r w' (i + 1) (by omega) (fun _ => by omega)
    have hl : (labT d f i).length = 11 := (txtL_no (labV_ok (d := d) (f := f + i) (by omega) (by omega)).1).2
    rw [outP, nn_cons]
    by_cases h : isN p = true
    · rw [if_pos h, if_pos h]
      exact hr false
    · rw [if_neg h, if_neg h]
      have := hr true
      simp only [List.length_append, pr1_len]
      split <;> simp only [List.length_nil, List.length_cons, hl] <;> omega
theorem print_short {f : Int} {s : List UInt8} {d : Bool} : (printV f s d).1.length ≤ 17 * nn (prs s) + 8 := by
  unfold printV
  split
  · simp
  · rename_i h
    have h2 : chkS f s.length = 0 := by simpa using h
    unfold printN
    split
    · simp
    · rename_i hl
      have e2 : (normV f (prs s)).2 = mid (prs s) := by
        unfold normV; split
        · rename_i h; exact h.symm
        · rfl
      have hlow : 0 ≤ (normV f (prs s)).1 := by
        unfold chkS at h2
        split at h2
        · cases h2
        · split at h2
          · cases h2
          · split at h2
            · cases h2
            · unfold normV; split <;> dsimp only <;> omega
      have hday : (normV f (prs s)).2 ≠ [] → (normV f (prs s)).1 + 0 + ((normV f (prs s)).2.length : Int) - 1 < dayV d := fun h => by
        have : ¬ (dayV d ≤ (normV f (prs s)).1 + ((normV f (prs s)).2.length : Int) - 1) := fun x => hl ⟨h, x⟩
        omega
      have := out_short hlow _ false 0 (Int.le_refl _) hday
      rw [e2, nn_mid] at this
      simp only [textP, List.length_append, List.length_singleton, e2, show headL.length = 7 from rfl]
      omega
theorem prL_len : ∀ (s : List UInt8) (i : Nat) (p : List Pr), prL i s = .ok p → 5 * p.length ≤ s.length
  | [], i, p, h => by rw [prL] at h; cases h; simp
  | [_], i, p, h => by simp [prL] at h
  | [_, _], i, p, h => by simp [prL] at h
  | [_, _, _], i, p, h => by simp [prL] at h
  | [_, _, _, _], i, p, h => by simp [prL] at h
  | x :: a :: b :: c :: d :: r, i, p, h => by
    rw [prL] at h
    split at h
    · split at h
      · cases e : prL (i + 5) r with
        | error z => rw [e] at h; cases h
        | ok q =>
          rw [e] at h
          have := prL_len r (i + 5) q e
          simp only [Except.map, Except.ok.injEq] at h
          subst h
          simp only [List.length_cons]
          omega
      · cases h
    · cases h
theorem line_nn {r r' : Rd} {s : List UInt8} (e : lineV r s = .ok r') : nn r'.ps ≤ nn r.ps + s.length := by
  unfold lineV at e
  split at e
  · cases e
  · split at e
    · cases e
    · split at e
      · cases e
      · split at e
        · cases e
        · rename_i p hp
          dsimp only at e
          generalize (if r.begun = true then r.first else frmV _) = F at e
          split at e
          · cases e
          · split at e
            · cases e
            · cases e
              have h1 : 5 * p.length ≤ s.length := by
                unfold prV at hp
                split at hp
                · cases hp
                · have := prL_len _ _ _ hp
                  simp at this
                  omega
              have h2 := nn_len p
              dsimp only
              rw [nn_app, nn_app, nn_nuls]
              omega
theorem lines_nn : ∀ (t : List (List UInt8)) {n : Int} {r r' : Rd}, linesV n r t = .ok r' → nn r'.ps ≤ nn r.ps + (t.map List.length).sum
  | [], n, r, r', e => by cases e; simp
  | s :: t, n, r, r', e => by
    rw [linesV] at e
    simp only [List.map_cons, List.sum_cons]
    split at e
    · have := lines_nn t e
      omega
    · split at e
      · cases e
      · rename_i r2 h2
        have h3 := lines_nn t e
        have h4 := line_nn h2
        omega
theorem addW_sum (b : UInt8) : ∀ (ws : List (List UInt8)), ((addW b ws).map List.length).sum = (ws.map List.length).sum + 1
  | [] => rfl
  | w :: ws => by simp [addW]; omega
theorem words_sum (c : UInt8) : ∀ (l : List UInt8), ((wordsC c l).map List.length).sum ≤ l.length
  | [] => by simp [wordsC]
  | b :: r => by
    have := words_sum c r
    rw [wordsC]
    split
    · simp; omega
    · rw [addW_sum]; simp; omega
theorem parse_nn {s : List UInt8} {f : Int} {l : List Pr} (h : parseV s = .ok (f, l)) : nn l ≤ s.length := by
  unfold parseV parseW at h
  split at h
  · cases h
  · split at h
    · cases h
    · rename_i t hw _
      cases e : linesV 2 rd0 t with
      | error x => rw [e] at h; cases h
      | ok r =>
        rw [e] at h
        have h1 := lines_nn t e
        have h2 := words_sum 10 s
        rw [hw] at h2
        simp only [List.map_cons, List.sum_cons] at h2
        have h3 : normV r.first r.ps = (f, l) := by simpa [Except.map] using h
        have h4 : l = mid r.ps := by
          unfold normV at h3
          split at h3
          · rename_i hm
            simp only [Prod.mk.injEq] at h3
            rw [← h3.2, hm]
          · simp only [Prod.mk.injEq] at h3
            exact h3.2.symm
        rw [h4, nn_mid]
        have : nn rd0.ps = 0 := rfl
        omega
/-- The text of what was read from at most 600 bytes. -/
theorem again_short {s : List UInt8} {f : Int} {l : List Pr} {d : Bool} (h : parseV s = .ok (f, l)) (hs : s.length ≤ 600) : (printV f (flat l) d).1.length ≤ 20000 := by
  have h1 := parse_nn h
  have h2 := print_short (f := f) (s := flat l) (d := d)
  rw [prs_flat] at h2
  omega
end Go.Proofs.YtbliilemjkjimaaDoor
