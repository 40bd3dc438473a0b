/-
  Snapping, in plain words: the snapped frame is good, no good frame is nearer, and it stays. Without conditions.
-/
import Derived.Test.YtnnhbnkelgmaaaaDoorPl
namespace Go.Proofs.YtnnhbnkelgmaaaaDoor
def goodP (b a : Int) (xs : List Int) (p : Int) : Prop := fr p = true ∧ tooC p b a xs = none
theorem tooC_none {p b a : Int} {xs : List Int} : tooC p b a xs = none ↔ ∀ c ∈ xs, bad1 p b a c = false := by
  unfold tooC
  rw [List.find?_eq_none]
  constructor
  · intro h c hc; have := h c hc; simpa using this
  · intro h c hc; have := h c hc; simpa using this
theorem bad1_false {p b a c : Int} : bad1 p b a c = false ↔ (p ≤ c - b ∨ c ≤ p) ∧ (p ≤ c ∨ c + a ≤ p) := by
  unfold bad1
  simp
  omega
theorem sz_eq (n : Int) : (0 ≤ n ∧ sz n = n) ∨ (n < 0 ∧ sz n = -n) := by unfold sz; split <;> omega
/-- p is nearer to f than q, or as near and smaller. -/
def nearer (f p q : Int) : Prop := sz (p - f) < sz (q - f) ∨ (sz (p - f) = sz (q - f) ∧ p < q)
theorem better_true {f p q : Int} : better f p q true = true ↔ nearer f p q := by unfold better nearer; simp
theorem better_first {f p q : Int} : better f p q false = true := by simp [better]
structure Best (f b a : Int) (xs L : List Int) (r : Int × Bool) : Prop where
  yes : r.2 = true → goodP b a xs r.1 ∧ ∀ p ∈ L, goodP b a xs p → ¬ nearer f p r.1
  no : r.2 = false → r.1 = 0 ∧ ∀ p ∈ L, ¬ goodP b a xs p
theorem Best.step {f b a : Int} {xs L : List Int} {r : Int × Bool} {p : Int} (h : Best f b a xs L r) : Best f b a xs (L ++ [p]) (stepS f b a xs r p) := by
  obtain ⟨v, ok⟩ := r
  by_cases hc : fr p = true ∧ tooC p b a xs = none ∧ better f p v ok = true
  · rw [show stepS f b a xs (v, ok) p = (p, true) by simp [stepS, hc]]
    refine ⟨fun _ => ⟨⟨hc.1, hc.2.1⟩, fun q hq hg => ?_⟩, fun h => by cases h⟩
    rcases List.mem_append.1 hq with hq | hq
    · cases ok with
      | false => exact absurd hg ((h.no rfl).2 q hq)
      | true =>
        have h1 := (h.yes rfl).2 q hq hg
        have h2 := better_true.1 hc.2.2
        dsimp only at *
        unfold nearer at *
        omega
    · simp at hq
      subst hq
      dsimp only
      unfold nearer
      omega
  · rw [show stepS f b a xs (v, ok) p = (v, ok) by unfold stepS; rw [if_neg hc]]
    cases ok with
    | false =>
      have hn : ¬ goodP b a xs p := fun hg => hc ⟨hg.1, hg.2, better_first⟩
      refine ⟨fun h => (by cases h), fun _ => ⟨(h.no rfl).1, fun q hq => ?_⟩⟩
      rcases List.mem_append.1 hq with hq | hq
      · exact (h.no rfl).2 q hq
      · simp at hq; subst hq; exact hn
    | true =>
      refine ⟨fun _ => ⟨(h.yes rfl).1, fun q hq hg => ?_⟩, fun h => by cases h⟩
      rcases List.mem_append.1 hq with hq | hq
      · exact (h.yes rfl).2 q hq hg
      · simp at hq
        subst hq
        exact fun hn => hc ⟨hg.1, hg.2, better_true.2 hn⟩
theorem Best.fold {f b a : Int} {xs : List Int} : ∀ {L M : List Int} {r : Int × Bool}, Best f b a xs M r → Best f b a xs (M ++ L) (L.foldl (stepS f b a xs) r)
  | [], M, r, h => by simpa using h
  | p :: L, M, r, h => by
    have := Best.fold (L := L) h.step (M := M ++ [p])
    rw [List.append_assoc] at this
    exact this
theorem snap_best (f b a : Int) (xs : List Int) : Best f b a xs (places f b a xs) (snapV f b a xs) := by
  have := Best.fold (L := places f b a xs) (M := []) (r := (0, false)) (f := f) (b := b) (a := a) (xs := xs) ⟨fun h => (by cases h), fun _ => ⟨rfl, fun p hp => by cases hp⟩⟩
  rw [List.nil_append] at this
  exact this
theorem place_c {f b a c : Int} {xs : List Int} (h : c ∈ xs) : c ∈ places f b a xs ∧ c - b ∈ places f b a xs ∧ c + a ∈ places f b a xs := by
  unfold places
  refine ⟨List.mem_cons_of_mem _ (List.mem_flatMap.2 ⟨c, h, by simp⟩), List.mem_cons_of_mem _ (List.mem_flatMap.2 ⟨c, h, by simp⟩), List.mem_cons_of_mem _ (List.mem_flatMap.2 ⟨c, h, by simp⟩)⟩
theorem some_bad {p b a : Int} {xs : List Int} (h : tooC p b a xs ≠ none) : ∃ c ∈ xs, bad1 p b a c = true := by
  cases hx : tooC p b a xs with
  | none => exact absurd hx h
  | some c => exact ⟨c, List.mem_of_find?_eq_some hx, by have := List.find?_some hx; simpa using this⟩
theorem above {f b a : Int} {xs : List Int} : ∀ (n : Nat) (o : Int), o = f + n → tooC o b a xs = none → ∃ p ∈ places f b a xs, f ≤ p ∧ p ≤ o ∧ tooC p b a xs = none
  | 0, o, ho, hg => ⟨f, List.mem_cons_self, Int.le_refl _, by omega, by rw [show f = o by omega]; exact hg⟩
  | n + 1, o, ho, hg => by
    by_cases hp : tooC (o - 1) b a xs = none
    · obtain ⟨p, h1, h2, h3, h4⟩ := above (f := f) n (o - 1) (by omega) hp
      exact ⟨p, h1, h2, by omega, h4⟩
    · obtain ⟨c, hc, hb⟩ := some_bad hp
      have h0 := bad1_false.1 (tooC_none.1 hg c hc)
      have h1 : ¬ bad1 (o - 1) b a c = false := by rw [hb]; simp
      rw [bad1_false] at h1
      have : o = c ∨ o = c + a := by omega
      obtain ⟨k1, k2, k3⟩ := place_c (f := f) (b := b) (a := a) hc
      refine ⟨o, ?_, by omega, Int.le_refl _, hg⟩
      rcases this with rfl | rfl
      · exact k1
      · exact k3
theorem under {f b a : Int} {xs : List Int} : ∀ (n : Nat) (o : Int), o = f - n → tooC o b a xs = none → ∃ p ∈ places f b a xs, p ≤ f ∧ o ≤ p ∧ tooC p b a xs = none
  | 0, o, ho, hg => ⟨f, List.mem_cons_self, Int.le_refl _, by omega, by rw [show f = o by omega]; exact hg⟩
  | n + 1, o, ho, hg => by
    by_cases hp : tooC (o + 1) b a xs = none
    · obtain ⟨p, h1, h2, h3, h4⟩ := under (f := f) n (o + 1) (by omega) hp
      exact ⟨p, h1, h2, by omega, h4⟩
    · obtain ⟨c, hc, hb⟩ := some_bad hp
      have h0 := bad1_false.1 (tooC_none.1 hg c hc)
      have h1 : ¬ bad1 (o + 1) b a c = false := by rw [hb]; simp
      rw [bad1_false] at h1
      have : o = c ∨ o = c - b := by omega
      obtain ⟨k1, k2, k3⟩ := place_c (f := f) (b := b) (a := a) hc
      refine ⟨o, ?_, by omega, Int.le_refl _, hg⟩
      rcases this with rfl | rfl
      · exact k1
      · exact k2
/-- What the law says of a snapped frame and any other good one. -/
theorem snap_nearest {f b a o : Int} {xs : List Int} (hf : fr f = true) (ho : fr o = true) (hg : tooC o b a xs = none) (hx : (snapV f b a xs).2 = true) : ¬ nearer f o (snapV f b a xs).1 := by
  have hB := (snap_best f b a xs).yes hx
  have gf := fr_of hf
  have go := fr_of ho
  rcases Int.le_total f o with h | h
  · obtain ⟨p, hp, h1, h2, h3⟩ := above (f := f) (b := b) (a := a) (xs := xs) (o - f).toNat o (by omega) hg
    have hn := hB.2 p hp ⟨fr_mk (by omega) (by omega), h3⟩
    unfold nearer at *
    rcases sz_eq (p - f) with e1 | e1 <;> rcases sz_eq (o - f) with e2 | e2 <;> omega
  · obtain ⟨p, hp, h1, h2, h3⟩ := under (f := f) (b := b) (a := a) (xs := xs) (f - o).toNat o (by omega) hg
    have hn := hB.2 p hp ⟨fr_mk (by omega) (by omega), h3⟩
    unfold nearer at *
    rcases sz_eq (p - f) with e1 | e1 <;> rcases sz_eq (o - f) with e2 | e2 <;> omega
theorem stay_fold {x b a : Int} {xs : List Int} : ∀ {L : List Int}, L.foldl (stepS x b a xs) (x, true) = (x, true)
  | [] => rfl
  | p :: L => by
    have : stepS x b a xs (x, true) p = (x, true) := by
      have hn : ¬ nearer x p x := by
        unfold nearer
        rcases sz_eq (p - x) with e1 | e1 <;> rcases sz_eq (x - x) with e2 | e2 <;> omega
      unfold stepS
      rw [if_neg]
      rintro ⟨_, _, h3⟩
      exact hn (better_true.1 h3)
    rw [List.foldl_cons, this]
    exact stay_fold
theorem snap_stays {x b a : Int} {xs : List Int} (h : goodP b a xs x) : snapV x b a xs = (x, true) := by
  unfold snapV places
  rw [List.foldl_cons, show stepS x b a xs (0, false) x = (x, true) by simp [stepS, h.1, h.2, better_first]]
  exact stay_fold
end Go.Proofs.YtnnhbnkelgmaaaaDoor
