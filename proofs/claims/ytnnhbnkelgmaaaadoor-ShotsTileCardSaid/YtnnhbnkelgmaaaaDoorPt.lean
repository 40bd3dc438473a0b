/-
  Shots tile the time line, in plain words. Without conditions.
-/
import Derived.Test.YtnnhbnkelgmaaaaDoorPl
namespace Go.Proofs.YtnnhbnkelgmaaaaDoor
theorem inG_le {f : Int} : ∀ {xs : List Int} {i : Int}, i ≤ f → inG f i xs ≤ f
  | [], _, h => h
  | c :: r, i, h => by
    unfold inG
    split
    · rename_i hc; exact inG_le hc
    · exact inG_le h
theorem inG_low {f j : Int} : ∀ {xs : List Int} {i : Int}, j ≤ i → (∀ x ∈ xs, j ≤ x) → j ≤ inG f i xs
  | [], _, h, _ => h
  | c :: r, i, h, hx => by
    have h1 := hx c List.mem_cons_self
    have h2 : ∀ x ∈ r, j ≤ x := fun x hr => hx x (List.mem_cons_of_mem _ hr)
    unfold inG
    split
    · exact inG_low h1 h2
    · exact inG_low h h2
theorem inG_ge {f c : Int} : ∀ {xs : List Int} {i : Int}, Rising xs → c ∈ xs → c ≤ f → c ≤ inG f i xs
  | d :: r, i, hr, hc, hf => by
    have hp := List.pairwise_cons.1 hr
    rcases List.mem_cons.1 hc with rfl | hc
    · unfold inG
      rw [if_pos hf]
      exact inG_low (Int.le_refl _) fun x hx => by have := hp.1 x hx; omega
    · unfold inG
      exact inG_ge hp.2 hc hf
theorem outG_gt {f : Int} (hf : f ≤ 5184000) : ∀ {xs : List Int}, f < outG f xs
  | [] => by unfold outG; omega
  | c :: r => by
    unfold outG
    split
    · assumption
    · exact outG_gt hf
theorem outG_le {f c : Int} : ∀ {xs : List Int}, Rising xs → c ∈ xs → f < c → outG f xs ≤ c
  | d :: r, hr, hc, hf => by
    have hp := List.pairwise_cons.1 hr
    unfold outG
    rcases List.mem_cons.1 hc with rfl | hc
    · rw [if_pos hf]; exact Int.le_refl _
    · split
      · have := hp.1 c hc; omega
      · exact outG_le hp.2 hc hf
theorem outG_mem {f : Int} : ∀ {xs : List Int}, outG f xs = 5184001 ∨ outG f xs ∈ xs
  | [] => .inl rfl
  | c :: r => by
    unfold outG
    split
    · exact .inr List.mem_cons_self
    · rcases outG_mem (f := f) (xs := r) with h | h
      · exact .inl h
      · exact .inr (List.mem_cons_of_mem _ h)
theorem near_hit {o : Int} : ∀ {xs : List Int} {b : Int}, (b = o ∨ o ∈ xs) → nearG o b xs = o
  | [], b, h => by rcases h with h | h; exact h; cases h
  | c :: r, b, h => by
    unfold nearG
    refine near_hit ?_
    by_cases hb : b = o
    · subst hb
      rw [if_neg (by unfold sz; split <;> split <;> omega)]
      exact .inl rfl
    · rcases h with h | h
      · exact absurd h hb
      · rcases List.mem_cons.1 h with rfl | h
        · rw [if_pos (by unfold sz; split <;> split <;> omega)]; exact .inl rfl
        · exact .inr h
theorem inside_none {f i : Int} {xs : List Int} (hr : Rising xs) : insideV (inG f i xs) (outG f xs) xs = [] := by
  unfold insideV
  rw [List.filter_eq_nil_iff]
  intro c hc
  simp
  intro h1
  by_cases hf : c ≤ f
  · have := inG_ge (i := i) hr hc hf; omega
  · exact outG_le hr hc (by omega)
end Go.Proofs.YtnnhbnkelgmaaaaDoor
