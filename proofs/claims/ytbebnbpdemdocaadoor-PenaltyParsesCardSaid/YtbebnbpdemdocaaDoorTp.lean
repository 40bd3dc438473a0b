/-
  The text of a table of twelve numbers, and the table of a text: in plain words. Without conditions.
-/
import Derived.Test.YtbebnbpdemdocaaDoorNm
import Derived.Test.YtbebnbpdemdocaaDoorChk
namespace Go.Proofs.YtbebnbpdemdocaaDoor
set_option linter.unusedVariables false
set_option linter.unusedSimpArgs false
/-- The number of a decimal of one to nine digits without a 0 ahead. -/
def numP (l : List UInt8) : Option Int := if l = [] ∨ 9 < l.length ∨ (1 < l.length ∧ l.head? = some 48) then none else digs 0 l
def headP : List UInt8 := [80, 69, 78, 65, 76, 84, 73, 69, 83]
def txtT (cs : List Int) : List UInt8 := cs.flatMap fun n => 32 :: Lib.itoa n
def txtP (cs : List Int) : List UInt8 := headP ++ txtT cs
theorem digs_nonneg : ∀ (l : List UInt8) (n m : Int), 0 ≤ n → digs n l = some m → 0 ≤ m
  | [], n, m, h0, h => by rw [digs] at h; cases h; exact h0
  | b :: r, n, m, h0, h => by
    rw [digs] at h
    split at h
    · rename_i hb
      simp [isD] at hb
      have := hb.1
      exact digs_nonneg r _ m (by have : 48 ≤ b.toNat := hb.1; omega) h
    · cases h
theorem numP_itoa {n : Int} (h1 : 0 ≤ n) (h2 : n ≤ 1000000) : numP (Lib.itoa n) = some n := by
  by_cases h0 : n = 0
  · subst h0
    rw [itoa_dec (by omega)]
    have e : Lib.decDigits (0 : Int).toNat = [48] := by rw [Lib.decDigits, dif_pos (by decide)]; rfl
    rw [e]
    rfl
  · have h := numL_itoa (n := n) (by omega) (by omega)
    unfold numL at h
    unfold numP
    split at h
    · cases h
    · rename_i hc
      rw [if_neg]
      · exact h
      · rintro (h3 | h3 | h3)
        · exact itoa_ne n h3
        · exact hc (.inr (.inl h3))
        · exact hc (.inr (.inr h3.2))
theorem numP_back {l : List UInt8} {n : Int} (h : numP l = some n) : 0 ≤ n ∧ Lib.itoa n = l := by
  unfold numP at h
  split at h
  · cases h
  · rename_i hc
    have hne : l ≠ [] := fun e => hc (.inl e)
    by_cases h48 : l.head? = some 48
    · have hl : l.length = 1 := by
        have : ¬ 1 < l.length := fun h1 => hc (.inr (.inr ⟨h1, h48⟩))
        have := List.length_pos_iff.2 hne
        omega
      match l, hl with
      | [b], _ =>
        have hb : b = 48 := by simpa using h48
        subst hb
        have : digs 0 [48] = some 0 := rfl
        rw [this] at h
        cases h
        refine ⟨by decide, ?_⟩
        rw [itoa_dec (by omega), Lib.decDigits, dif_pos (by decide)]; rfl
    · have := digs_back l n h hne h48
      exact ⟨by omega, by rw [itoa_dec (by omega)]; exact this.2⟩
theorem wordsC_txtT : ∀ (cs : List Int) (u : List UInt8), 32 ∉ u → wordsC 32 (u ++ txtT cs) = u :: cs.map Lib.itoa
  | [], u, h => by simp [txtT, wordsC_no h]
  | n :: r, u, h => by
    have e : u ++ txtT (n :: r) = u ++ 32 :: (Lib.itoa n ++ txtT r) := by simp [txtT]
    rw [e, wordsC_cut h, wordsC_txtT r _ (itoa_no (by decide) (by decide))]
    rfl
theorem words_txtP (cs : List Int) : wordsC 32 (txtP cs) = headP :: cs.map Lib.itoa := wordsC_txtT cs headP (by decide)
/-- The numbers of words. -/
def numsP : List (List UInt8) → Option (List Int)
  | [] => some []
  | w :: ws => match numP w, numsP ws with
    | some n, some ns => some (n :: ns)
    | _, _ => none
theorem numsP_itoa : ∀ {cs : List Int}, (∀ n ∈ cs, 0 ≤ n ∧ n ≤ 1000000) → numsP (cs.map Lib.itoa) = some cs
  | [], _ => rfl
  | n :: r, h => by
    have h1 := h n (by simp)
    rw [List.map_cons, numsP, numP_itoa h1.1 h1.2, numsP_itoa (fun m hm => h m (by simp [hm]))]
theorem numsP_back : ∀ {ws : List (List UInt8)} {cs : List Int}, numsP ws = some cs → cs.map Lib.itoa = ws ∧ cs.length = ws.length
  | [], cs, h => by cases h; exact ⟨rfl, rfl⟩
  | w :: ws, cs, h => by
    rw [numsP] at h
    split at h
    · rename_i n ns e1 e2
      cases h
      have := numsP_back e2
      rw [List.map_cons, (numP_back e1).2, this.1]
      exact ⟨rfl, by simp [this.2]⟩
    · cases h
theorem numsP_get : ∀ {ws : List (List UInt8)} {cs : List Int} {k : Nat} {w : List UInt8}, numsP ws = some cs → ws[k]? = some w → ∃ n, numP w = some n ∧ cs[k]? = some n
  | w :: ws, cs, k, x, h, hx => by
    rw [numsP] at h
    split at h
    · rename_i n ns e1 e2
      cases h
      cases k with
      | zero => cases hx; exact ⟨n, e1, rfl⟩
      | succ k =>
        obtain ⟨m, h1, h2⟩ := numsP_get e2 (by simpa using hx)
        exact ⟨m, h1, by simpa using h2⟩
    · cases h
theorem numsP_bad : ∀ {ws : List (List UInt8)} {k : Nat} {w : List UInt8}, ws[k]? = some w → numP w = none → numsP ws = none
  | w :: ws, 0, x, hx, h => by cases hx; rw [numsP, h]
  | w :: ws, k + 1, x, hx, h => by
    rw [numsP, numsP_bad (k := k) (by simpa using hx) h]
    cases numP w <;> rfl
/-- The table of a text, or the error. -/
def parseP (s : List UInt8) : Except Int (List Int) :=
  match wordsC 32 s with
  | h :: t => if t.length = 12 ∧ h = headP then (match numsP t with
    | some cs => if pchk cs = 0 then .ok cs else .error (pchk cs)
    | none => .error 4) else .error 4
  | [] => .error 4
theorem pchk_range {cs : List Int} (h : pchk cs = 0) : ∀ n ∈ cs, 0 ≤ n ∧ n ≤ 1000000 := by
  unfold pchk at h
  split at h
  · rename_i ha
    intro n hn
    have := List.all_eq_true.1 ha n hn
    simpa [inR] using this
  · cases h
/-- PenaltyTexts, plain. -/
theorem parse_txtP {cs : List Int} (hl : cs.length = 12) (h : pchk cs = 0) : parseP (txtP cs) = .ok cs := by
  rw [parseP, words_txtP]
  simp only [List.length_map, hl, true_and, if_true]
  rw [numsP_itoa (pchk_range h)]
  simp only []
  rw [if_pos h]
theorem addW_ne (b : UInt8) (ws : List (List UInt8)) : addW b ws ≠ [] := by cases ws <;> simp [addW]
theorem words_ne (c : UInt8) : ∀ (l : List UInt8), wordsC c l ≠ []
  | [] => by simp [wordsC]
  | b :: r => by
    rw [wordsC]
    split
    · simp
    · exact addW_ne _ _
theorem wordsC_join (c : UInt8) : ∀ (s : List UInt8) (h : List UInt8) (t : List (List UInt8)), wordsC c s = h :: t → s = h ++ t.flatMap (fun w => c :: w)
  | [], h, t, e => by
    have e1 : ([[]] : List (List UInt8)) = h :: t := e
    cases e1
    rfl
  | b :: r, h, t, e => by
    have ih := wordsC_join c r
    have hne := words_ne c r
    rw [wordsC] at e
    generalize wordsC c r = ws at *
    match ws, hne with
    | h2 :: t2, _ =>
      have h3 := ih h2 t2 rfl
      split at e
      · rename_i hb
        cases e
        rw [hb, List.nil_append, List.flatMap_cons, List.cons_append, ← h3]
      · rw [addW] at e
        cases e
        rw [h3]; rfl
/-- PenaltyParses, plain: an accepted text is that of its table. -/
theorem txtP_parse {s : List UInt8} {cs : List Int} (h : parseP s = .ok cs) : txtP cs = s ∧ cs.length = 12 ∧ pchk cs = 0 := by
  unfold parseP at h
  split at h
  · rename_i hd t hw
    split at h
    · rename_i hc
      cases hn : numsP t with
      | none => rw [hn] at h; cases h
      | some ns =>
        rw [hn] at h
        simp only [] at h
        split at h
        · rename_i hp
          cases h
          have hb := numsP_back hn
          refine ⟨?_, by rw [hb.2, hc.1], hp⟩
          rw [wordsC_join 32 s _ _ hw, hc.2, txtP, txtT, ← hb.1]
          congr 1
          rw [List.flatMap_map]
        · cases h
    · cases h
  · cases h
end Go.Proofs.YtbebnbpdemdocaaDoor
