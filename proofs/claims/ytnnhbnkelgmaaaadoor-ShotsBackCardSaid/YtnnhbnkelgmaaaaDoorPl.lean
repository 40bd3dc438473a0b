/-
  The plain functions that the shot lists come to, and what holds of them: no program in sight. Without conditions.
-/
namespace Go.Proofs.YtnnhbnkelgmaaaaDoor
/-- The error at place i of a list of shot changes, 0 if there is none. -/
def chkAt (xs : List Int) (i : Nat) : Int :=
  if xs.getD i 0 < 1 ∨ 5184000 < xs.getD i 0 then 2 else if 0 < i ∧ xs.getD i 0 ≤ xs.getD (i - 1) 0 then 8 else 0
def chkF (xs : List Int) : Nat → Nat → Int
  | 0, _ => 0
  | f + 1, i => if chkAt xs i = 0 then chkF xs f (i + 1) else chkAt xs i
def chkS (xs : List Int) : Int := if 400 < xs.length then 9 else chkF xs xs.length 0
theorem chkF_zero {xs : List Int} : ∀ {f i : Nat}, chkF xs f i = 0 → ∀ j, i ≤ j → j < i + f → chkAt xs j = 0
  | 0, i, _, j, h1, h2 => by omega
  | f + 1, i, h, j, h1, h2 => by
    unfold chkF at h
    split at h
    · rename_i h0
      by_cases hj : j = i
      · subst hj; exact h0
      · exact chkF_zero h j (by omega) (by omega)
    · rename_i h0; exact absurd h h0
theorem chkS_zero {xs : List Int} (h : chkS xs = 0) : xs.length ≤ 400 ∧ ∀ j, j < xs.length → chkAt xs j = 0 := by
  unfold chkS at h
  split at h
  · omega
  · exact ⟨by omega, fun j hj => chkF_zero h j (by omega) (by omega)⟩
theorem chkS_bd {xs : List Int} (h : chkS xs = 0) (j : Nat) (hj : j < xs.length) : 1 ≤ xs.getD j 0 ∧ xs.getD j 0 ≤ 5184000 := by
  have := (chkS_zero h).2 j hj
  unfold chkAt at this
  split at this
  · omega
  · omega
theorem chkS_lt {xs : List Int} (h : chkS xs = 0) (j : Nat) (hj : j + 1 < xs.length) : xs.getD j 0 < xs.getD (j + 1) 0 := by
  have := (chkS_zero h).2 (j + 1) hj
  unfold chkAt at this
  split at this
  · omega
  · split at this
    · omega
    · simp at *; omega
theorem chkF_step_ok {xs : List Int} {f i : Nat} (h : chkAt xs i = 0) : chkF xs (f + 1) i = chkF xs f (i + 1) := by
  rw [chkF, if_pos h]
theorem chkF_step_bad {xs : List Int} {f i : Nat} (h : chkAt xs i ≠ 0) : chkF xs (f + 1) i = chkAt xs i := by
  rw [chkF, if_neg h]
theorem chkAt_zero_ok {xs : List Int} {x : Int} (h : xs.getD 0 0 = x) (h1 : 1 ≤ x) (h2 : x ≤ 5184000) : chkAt xs 0 = 0 := by
  unfold chkAt; rw [h, if_neg (by omega), if_neg (by omega)]
theorem chkAt_bad {xs : List Int} {x : Int} {i : Nat} (h : xs.getD i 0 = x) (h1 : x < 1 ∨ 5184000 < x) : chkAt xs i = 2 := by
  unfold chkAt; rw [h, if_pos h1]
theorem chkAt_order {xs : List Int} {x y : Int} {j : Nat} (h : xs.getD (j + 1) 0 = x) (h' : xs.getD j 0 = y) (h1 : 1 ≤ x) (h2 : x ≤ 5184000) (h3 : x ≤ y) : chkAt xs (j + 1) = 8 := by
  unfold chkAt; rw [h, show j + 1 - 1 = j by omega, h', if_neg (by omega), if_pos ⟨by omega, h3⟩]
theorem chkAt_ok {xs : List Int} {x y : Int} {j : Nat} (h : xs.getD (j + 1) 0 = x) (h' : xs.getD j 0 = y) (h1 : 1 ≤ x) (h2 : x ≤ 5184000) (h3 : y < x) : chkAt xs (j + 1) = 0 := by
  unfold chkAt; rw [h, show j + 1 - 1 = j by omega, h', if_neg (by omega), if_neg (by omega)]
theorem chkF_bad {xs : List Int} {f i : Nat} {v : Int} (h : chkAt xs i = v) (hv : v ≠ 0) : chkF xs (f + 1) i = v := by
  rw [chkF_step_bad (by rw [h]; exact hv), h]
def fr (f : Int) : Bool := decide (0 ≤ f) && decide (f ≤ 5184000)
theorem fr_of {f : Int} (h : fr f = true) : 0 ≤ f ∧ f ≤ 5184000 := by simpa [fr] using h
theorem fr_mk {f : Int} (h1 : 0 ≤ f) (h2 : f ≤ 5184000) : fr f = true := by simp [fr, h1, h2]
/-- The size of a number. -/
def sz (n : Int) : Int := if n < 0 then -n else n
def nearG (f : Int) : Int → List Int → Int
  | b, [] => b
  | b, c :: r => nearG f (if sz (c - f) < sz (b - f) then c else b) r
def bad1 (f b a c : Int) : Bool := (decide (c - b < f) && decide (f < c)) || (decide (c < f) && decide (f < c + a))
def tooC (f b a : Int) (xs : List Int) : Option Int := xs.find? (bad1 f b a)
def places (f b a : Int) (xs : List Int) : List Int := f :: xs.flatMap fun c => [c - b, c, c + a]
def better (f p best : Int) (ok : Bool) : Bool := !ok || decide (sz (p - f) < sz (best - f)) || (decide (sz (p - f) = sz (best - f)) && decide (p < best))
def stepS (f b a : Int) (xs : List Int) (st : Int × Bool) (p : Int) : Int × Bool :=
  if fr p = true ∧ tooC p b a xs = none ∧ better f p st.1 st.2 = true then (p, true) else st
def snapV (f b a : Int) (xs : List Int) : Int × Bool := (places f b a xs).foldl (stepS f b a xs) (0, false)
def shotG (f : Int) : Int → List Int → Int × Int
  | i, [] => (i, 5184001)
  | i, c :: r => if c ≤ f then shotG f c r else (i, c)
def inG (f : Int) : Int → List Int → Int
  | i, [] => i
  | i, c :: r => inG f (if c ≤ f then c else i) r
def outG (f : Int) : List Int → Int
  | [] => 5184001
  | c :: r => if f < c then c else outG f r
def insideV (i o : Int) (xs : List Int) : List Int := xs.filter fun c => decide (i < c) && decide (c < o)
theorem drop_cons {xs : List Int} {k : Nat} (hk : k < xs.length) : xs.drop k = xs.getD k 0 :: xs.drop (k + 1) := by
  rw [List.drop_eq_getElem_cons hk]; simp [hk]
/-- Rising lists. -/
def Rising (xs : List Int) : Prop := xs.Pairwise (· < ·)
theorem rising_of {xs : List Int} (h : ∀ j, j + 1 < xs.length → xs.getD j 0 < xs.getD (j + 1) 0) : Rising xs := by
  induction xs with
  | nil => exact List.Pairwise.nil
  | cons x xs ih =>
    have h1 : Rising xs := ih fun j hj => by have := h (j + 1) (by simpa using hj); simpa using this
    refine List.pairwise_cons.2 ⟨?_, h1⟩
    cases xs with
    | nil => intro y hy; cases hy
    | cons y ys =>
      have h0 := h 0 (by simp)
      simp at h0
      intro z hz
      rcases List.mem_cons.1 hz with rfl | hz
      · exact h0
      · exact Int.lt_trans h0 ((List.pairwise_cons.1 h1).1 z hz)
theorem inG_above {f : Int} : ∀ {xs : List Int} {i : Int}, (∀ c ∈ xs, f < c) → inG f i xs = i
  | [], _, _ => rfl
  | c :: r, i, h => by
    have hc := h c List.mem_cons_self
    rw [inG, if_neg (by omega)]
    exact inG_above fun d hd => h d (List.mem_cons_of_mem _ hd)
theorem shotG_eq {f : Int} : ∀ {xs : List Int} {i : Int}, Rising xs → shotG f i xs = (inG f i xs, outG f xs)
  | [], _, _ => rfl
  | c :: r, i, h => by
    have hp := List.pairwise_cons.1 h
    by_cases hc : c ≤ f
    · rw [shotG, if_pos hc, shotG_eq (i := c) hp.2, inG, outG, if_pos hc, if_neg (by omega)]
    · rw [shotG, if_neg hc, inG, outG, if_neg hc, if_pos (by omega), inG_above fun d hd => by have := hp.1 d hd; omega]
end Go.Proofs.YtnnhbnkelgmaaaaDoor
