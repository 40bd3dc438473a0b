/-
  Where the first pair lies that is not null: in plain words.
-/
import Derived.Test.YtbliilemjkjimaaDoorSs
namespace Go.Proofs.YtbliilemjkjimaaDoor
set_option linter.unusedVariables false
set_option linter.unusedSimpArgs false
theorem two_at : ∀ {k : Nat} {bs : List UInt8}, 2 * k + 1 < bs.length → ∃ a b r, bs.drop (2 * k) = a :: b :: r ∧ (prs bs)[k]? = some (a, b)
  | 0, a :: b :: r, _ => ⟨a, b, r, rfl, rfl⟩
  | 0, [a], h => by simp at h
  | 0, [], h => by simp at h
  | k + 1, a :: b :: r, h => by
    obtain ⟨x, y, t, e1, e2⟩ := two_at (k := k) (bs := r) (by simp at h; omega)
    exact ⟨x, y, t, by rw [show 2 * (k + 1) = 2 * k + 1 + 1 from by omega]; exact e1, e2⟩
  | k + 1, [a], h => by simp at h
  | k + 1, [], h => by simp at h
theorem lead_nil {l : List Pr} (h : ∀ j, j < l.length → l[j]? = some (128, 128)) : mid l = [] ∧ lead l = l.length := by
  have e : l = nuls l.length := List.ext_getElem? fun j => by
    by_cases hj : j < l.length
    · rw [h j hj]; simp [nuls, hj]
    · rw [List.getElem?_eq_none (by omega), List.getElem?_eq_none (by simp [nuls]; omega)]
  generalize l.length = n at e
  subst e
  have ht : ∀ n, (nuls n).takeWhile isN = nuls n := fun n => by
    induction n with
    | zero => rfl
    | succ n ih => show ((128, 128) :: nuls n).takeWhile isN = _; rw [List.takeWhile_cons_of_pos (by decide), ih]; rfl
  have hd : ∀ n, (nuls n).dropWhile isN = [] := fun n => by
    induction n with
    | zero => rfl
    | succ n ih => show ((128, 128) :: nuls n).dropWhile isN = _; rw [List.dropWhile_cons_of_pos (by decide), ih]
  refine ⟨by rw [mid, hd]; rfl, ?_⟩
  rw [lead, ht]
  simp [nuls]
theorem lead_at : ∀ {l : List Pr} {k : Nat} {p : Pr}, (∀ j, j < k → l[j]? = some (128, 128)) → l[k]? = some p → isN p = false → lead l = k ∧ l.dropWhile isN = l.drop k
  | [], k, p, _, h, _ => by simp at h
  | q :: l, 0, p, _, h, hn => by
    cases h
    exact ⟨by rw [lead, List.takeWhile_cons_of_neg (by simp [hn])]; rfl, by rw [List.dropWhile_cons_of_neg (by simp [hn])]; rfl⟩
  | q :: l, k + 1, p, hj, h, hn => by
    have h0 := hj 0 (by omega)
    cases h0
    obtain ⟨e1, e2⟩ := lead_at (l := l) (k := k) (p := p) (fun j hj' => hj (j + 1) (by omega)) h hn
    refine ⟨?_, by rw [List.dropWhile_cons_of_pos (by decide), e2]; rfl⟩
    rw [lead, List.takeWhile_cons_of_pos (by decide)]
    exact congrArg (· + 1) e1
theorem flat_prs : ∀ {bs : List UInt8} (n : Nat), 2 * n ≤ bs.length → bs.take (2 * n) = flat ((prs bs).take n)
  | _, 0, _ => rfl
  | a :: b :: r, n + 1, h => by
    rw [show 2 * (n + 1) = 2 * n + 1 + 1 from by omega, List.take_succ_cons, List.take_succ_cons, flat_prs n (by simp at h; omega)]; rfl
  | [a], n + 1, h => by simp at h; omega
  | [], n + 1, h => by simp at h
theorem prs_drop : ∀ {bs : List UInt8} (n : Nat), prs (bs.drop (2 * n)) = (prs bs).drop n
  | bs, 0 => rfl
  | a :: b :: r, n + 1 => by rw [show 2 * (n + 1) = 2 * n + 1 + 1 from by omega]; exact prs_drop (bs := r) n
  | [a], n + 1 => by rw [show 2 * (n + 1) = 2 * n + 1 + 1 from by omega]; rfl
  | [], n + 1 => by simp [prs]
theorem trim_cut {l : List Pr} {j : Nat} {p : Pr} (hj : j < l.length) (hp : l[l.length - j - 1]? = some p) (hn : isN p = false) (h : ∀ i, l.length - j ≤ i → i < l.length → l[i]? = some (128, 128)) : trim l = l.take (l.length - j) := by
  have e1 : l.drop (l.length - j) = nuls j := List.ext_getElem? fun i => by
    rw [List.getElem?_drop]
    by_cases hi : i < j
    · rw [h _ (by omega) (by omega)]; simp [nuls, hi]
    · rw [List.getElem?_eq_none (by omega), List.getElem?_eq_none (by simp [nuls]; omega)]
  have e2 : l.take (l.length - j) = l.take (l.length - j - 1) ++ [p] := by
    conv => lhs; rw [show l.length - j = l.length - j - 1 + 1 from by omega]
    rw [List.take_add_one, hp]; rfl
  conv => lhs; rw [← List.take_append_drop (l.length - j) l, e1, trim_app_nuls, e2, trim_last hn, ← e2]
/-- The pairs between the first and the last one that are not null. -/
theorem mid_at {bs : List UInt8} {k j : Nat} {p q : Pr} (hk : ∀ i, i < k → (prs bs)[i]? = some (128, 128)) (hp : (prs bs)[k]? = some p) (hn : isN p = false) (hj : k + j < (prs bs).length)
    (hq : (prs bs)[(prs bs).length - j - 1]? = some q) (hqn : isN q = false) (hz : ∀ i, (prs bs).length - j ≤ i → i < (prs bs).length → (prs bs)[i]? = some (128, 128)) :
    (bs.drop (2 * k)).take (2 * ((prs bs).length - k - j)) = flat (mid (prs bs)) ∧ (mid (prs bs)).length = (prs bs).length - k - j ∧ lead (prs bs) = k ∧ mid (prs bs) ≠ [] := by
  obtain ⟨e1, e2⟩ := lead_at hk hp hn
  have e3 : mid (prs bs) = ((prs bs).drop k).take ((prs bs).length - k - j) := by
    rw [mid, e2]
    have := trim_cut (l := (prs bs).drop k) (j := j) (p := q) (by simp; omega) (by rw [List.getElem?_drop, List.length_drop, ← hq]; congr 1; omega) hqn (fun i h1 h2 => by
      rw [List.getElem?_drop]
      simp at h1 h2
      exact hz _ (by omega) (by omega))
    simpa using this
  have hl : 2 * (prs bs).length ≤ bs.length := by rw [prs_len]; omega
  have e4 : (mid (prs bs)).length = (prs bs).length - k - j := by rw [e3]; simp
  refine ⟨?_, e4, e1, fun h => by rw [h] at e4; simp at e4; omega⟩
  rw [e3, ← prs_drop, flat_prs _ (by simp; omega)]
end Go.Proofs.YtbliilemjkjimaaDoor
