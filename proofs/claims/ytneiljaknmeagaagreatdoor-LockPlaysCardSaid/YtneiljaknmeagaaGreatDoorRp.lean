/-
  The text of a table on the way is short. Without conditions.
-/
import Derived.Test.YtneiljaknmeagaaGreatDoorRn
import Derived.Test.YtneiljaknmeagaaGreatDoorQe
namespace Go.Proofs.YtneiljaknmeagaaGreatDoor
open Go.RowKit Go.Joins
set_option linter.unusedVariables false
set_option linter.unusedSimpArgs false
theorem dec_len : ∀ (k a : Nat), 0 < k → a < 10 ^ k → (Lib.decDigits a).length ≤ k
  | 0, _, h, _ => by omega
  | k + 1, a, _, h => by
    by_cases h1 : a < 10
    · rw [dec_one h1]; simp
    · rw [dec_split (by omega), List.length_append, List.length_singleton]
      have hk : 0 < k := by
        rcases Nat.eq_zero_or_pos k with rfl | h2
        · simp at h; omega
        · exact h2
      have := dec_len k (a / 10) hk (by rw [Nat.pow_succ] at h; omega)
      omega
theorem itoa_len {n : Int} {k : Nat} (hk : 0 < k) (h0 : 0 ≤ n) (h : n < 10 ^ k) : (Lib.itoa n).length ≤ k := by
  have e : Lib.itoa n = Lib.decDigits n.toNat := by
    unfold Lib.itoa
    rw [if_neg (by omega)]
  rw [e]
  exact dec_len k _ hk (by have : ((10 ^ k : Nat) : Int) = (10 : Int) ^ k := by simp
                           omega)
theorem line_len (word : List UInt8) (ns : List Int) : (lineT word ns).length = word.length + (ns.map (fun n => (Lib.itoa n).length + 1)).sum + 1 := by
  unfold lineT numsT
  rw [List.length_append, List.length_append, List.length_flatMap]
  simp
theorem flatMap_le {α : Type} {f : α → List UInt8} {m : Nat} : ∀ {L : List α}, (∀ x ∈ L, (f x).length ≤ m) → (L.flatMap f).length ≤ m * L.length
  | [], _ => by simp
  | a :: r, h => by
    rw [List.flatMap_cons, List.length_append, List.length_cons, Nat.mul_succ]
    have h1 := h a (by simp)
    have h2 := flatMap_le (L := r) (f := f) (m := m) (fun x hx => h x (by simp [hx]))
    omega
theorem text_short {k : Nat} {T : Tb} (h : InvP k T) (hk : k ≤ 100) : (textT T).length ≤ 900 := by
  have n1 := h.snd.now
  have m1 : mTk = 10378368000 := rfl
  have l1 := itoa_len (n := T.now) (k := 11) (by decide) n1.1 (by have := n1.2; rw [m1] at this; show T.now < 100000000000; omega)
  have l2 := itoa_len (n := T.ls) (k := 3) (by decide) h.snd.ls.1 (by have := h.ls; show T.ls < 1000; omega)
  have l3 := itoa_len (n := T.lf) (k := 3) (by decide) h.snd.lf.1 (by have := h.lf; show T.lf < 1000; omega)
  have s1 : (textS T.ses).length ≤ 12 * T.ses.length := flatMap_le (fun n hn => by
    have hn2 := h.snd.ses n hn
    have := itoa_len (n := n) (k := 3) (by decide) (by omega) (by have := h.ls; show n < 1000; omega)
    rw [line_len]
    have e : sessionW.length = 7 := rfl
    simp [e]
    omega)
  have s2 : (textL T.lea).length ≤ 43 * T.lea.length := flatMap_le (fun x hx => by
    obtain ⟨k1, k2, k3, k4, k5, k6⟩ := h.snd.lea x hx
    have hn2 := h.snd.ses _ k2
    have hr : x.reel.length ≤ 16 := by
      rcases Nat.lt_or_ge 16 x.reel.length with hh | hh
      · rw [nm_long hh] at k1; cases k1
      · exact hh
    have a1 := itoa_len (n := x.ses) (k := 3) (by decide) (by omega) (by have := h.ls; show x.ses < 1000; omega)
    have a2 := itoa_len (n := x.fen) (k := 3) (by decide) (by omega) (by have := h.lf; show x.fen < 1000; omega)
    have a3 := itoa_len (n := x.unt) (k := 11) (by decide) (by omega) (by have := n1.2; rw [m1] at this; show x.unt < 100000000000; omega)
    rw [line_len]
    have e : leaseW.length = 6 := rfl
    simp [e]
    omega)
  have b1 := h.snd.slen
  have b2 := h.snd.llen
  unfold textT
  rw [List.length_append, List.length_append, line_len]
  have e : locksW.length = 5 := rfl
  simp [e]
  omega
end Go.Proofs.YtneiljaknmeagaaGreatDoor
