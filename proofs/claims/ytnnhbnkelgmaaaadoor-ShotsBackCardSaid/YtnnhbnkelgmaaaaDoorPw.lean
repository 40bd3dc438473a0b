/-
  The words of a text, cut at blanks; numbers of one to nine digits: in plain words. Without conditions.
-/
import Derived.Lib.Split
import Derived.Lib.SplitLaws
namespace Go.Proofs.YtnnhbnkelgmaaaaDoor
def addB (b : UInt8) : List (List UInt8) → List (List UInt8)
  | [] => [[b]]
  | w :: ws => (b :: w) :: ws
def wordsL : List UInt8 → List (List UInt8)
  | [] => [[]]
  | b :: r => if b = 32 then [] :: wordsL r else addB b (wordsL r)
theorem wordsL_no : ∀ {s : List UInt8}, 32 ∉ s → wordsL s = [s]
  | [], _ => rfl
  | b :: r, h => by
    have hb : b ≠ 32 := fun e => h (by rw [e]; exact List.mem_cons_self)
    have hr : 32 ∉ r := fun e => h (List.mem_cons_of_mem _ e)
    rw [wordsL, if_neg hb, wordsL_no hr]; rfl
theorem wordsL_cut : ∀ {u v : List UInt8}, 32 ∉ u → wordsL (u ++ 32 :: v) = u :: wordsL v
  | [], v, _ => by simp [wordsL]
  | b :: r, v, h => by
    have hb : b ≠ 32 := fun e => h (by rw [e]; exact List.mem_cons_self)
    have hr : 32 ∉ r := fun e => h (List.mem_cons_of_mem _ e)
    rw [List.cons_append, wordsL, if_neg hb, wordsL_cut hr]; rfl
theorem index_blank : ∀ (s : List UInt8), (Lib.index s [32] = -1 ∧ 32 ∉ s) ∨ ∃ u v, s = u ++ 32 :: v ∧ 32 ∉ u ∧ Lib.index s [32] = u.length
  | [] => .inl ⟨rfl, by simp⟩
  | b :: r => by
    by_cases hb : b = 32
    · subst hb
      exact .inr ⟨[], r, rfl, by simp, by simp [Lib.index, List.isPrefixOf]⟩
    · have hp : ([32] : List UInt8).isPrefixOf (b :: r) = false := by simp [List.isPrefixOf]; exact fun h => hb h.symm
      rcases index_blank r with ⟨h1, h2⟩ | ⟨u, v, rfl, h2, h3⟩
      · left
        refine ⟨by rw [Lib.index, hp, h1]; rfl, ?_⟩
        intro h
        rcases List.mem_cons.1 h with h | h
        · exact hb h.symm
        · exact h2 h
      · right
        refine ⟨b :: u, v, rfl, ?_, ?_⟩
        · intro h
          rcases List.mem_cons.1 h with h | h
          · exact hb h.symm
          · exact h2 h
        · have hne : ((u.length : Int) == -1) = false := by rw [beq_eq_false_iff_ne]; omega
          rw [Lib.index, hp, h3]
          simp [hne]
theorem splitK_words : ∀ (k : Nat) (s : List UInt8), s.count 32 ≤ k → Lib.splitK [32] 0 k s = wordsL s
  | 0, s, h => by
    rw [wordsL_no (fun hm => by have := List.count_pos_iff.2 hm; omega)]; rfl
  | k + 1, s, h => by
    rcases index_blank s with ⟨h1, h2⟩ | ⟨u, v, rfl, h2, h3⟩
    · rw [Lib.splitK, h1, wordsL_no h2]; rfl
    · have hne : ((u.length : Int) == -1) = false := by rw [beq_eq_false_iff_ne]; omega
      rw [Lib.splitK, h3, wordsL_cut h2, hne]
      have hc : v.count 32 ≤ k := by
        rw [List.count_append, List.count_cons_self] at h
        omega
      simp
      exact splitK_words k v hc
theorem count_blank : ∀ (f : Nat) (s : List UInt8), s.length < f → Lib.countFrom [32] f s = s.count 32
  | 0, s, h => by omega
  | f + 1, s, h => by
    rcases index_blank s with ⟨h1, h2⟩ | ⟨u, v, rfl, h2, h3⟩
    · rw [Lib.countFrom, h1, List.count_eq_zero.2 h2]; rfl
    · have hne : ((u.length : Int) == -1) = false := by rw [beq_eq_false_iff_ne]; omega
      have hl : v.length < f := by simp at h; omega
      have hu : u.count 32 = 0 := List.count_eq_zero.2 h2
      rw [Lib.countFrom, h3, hne, List.count_append, List.count_cons_self, hu]
      simp
      rw [count_blank f v hl]
      omega
/-- What strings.Split gives at a blank. -/
theorem split_words (s : ByteArray) : (Lib.splitB ⟨#[32]⟩ 0 (Lib.countB s ⟨#[32]⟩) s).map (·.data.toList) = wordsL s.data.toList := by
  rw [Lib.splitB_data]
  refine splitK_words _ _ ?_
  have : Lib.countB s ⟨#[32]⟩ = s.data.toList.count 32 := by
    unfold Lib.countB Lib.count
    exact count_blank _ _ (by omega)
  rw [this]
  exact Nat.le_refl _
/-! numbers -/
def isD (b : UInt8) : Bool := decide (48 ≤ b.toNat) && decide (b.toNat ≤ 57)
def digs (n : Int) : List UInt8 → Option Int
  | [] => some n
  | b :: r => if isD b then digs (10 * n + ((b.toNat : Int) - 48)) r else none
def numL (l : List UInt8) : Option Int := if l.length < 1 ∨ 9 < l.length ∨ l.head? = some 48 then none else digs 0 l
def numV (l : List UInt8) : Int × Bool := match numL l with | some n => (n, true) | none => (0, false)
theorem numV_some {l : List UInt8} {n : Int} (h : numL l = some n) : numV l = (n, true) := by simp [numV, h]
theorem numV_none {l : List UInt8} (h : numL l = none) : numV l = (0, false) := by simp [numV, h]
theorem digs_bad {n : Int} {b : UInt8} {r : List UInt8} (h : b.toNat < 48 ∨ 57 < b.toNat) : digs n (b :: r) = none := by
  rw [digs, if_neg]
  simp [isD]
  omega
theorem digs_ok {n : Int} {b : UInt8} {r : List UInt8} (h1 : 48 ≤ b.toNat) (h2 : b.toNat ≤ 57) : digs n (b :: r) = digs (10 * n + ((b.toNat : Int) - 48)) r := by
  rw [digs, if_pos]
  simp [isD, h1, h2]
end Go.Proofs.YtnnhbnkelgmaaaaDoor
