/-
  Numbers as strconv reads them and as numP says. Without conditions.
-/
import Derived.Test.YtneiljaknmeagaaGreatDoorPa
namespace Go.Proofs.YtneiljaknmeagaaGreatDoor
set_option linter.unusedVariables false
set_option linter.unusedSimpArgs false
theorem uintM_digs : ∀ (l : List UInt8) (M acc u : Nat), Lib.parseUintM M acc l = .ok u → digs (acc : Int) l = some (u : Int)
  | [], M, acc, u, h => by
    have e : acc = u := by injection h
    rw [e]
    rfl
  | c :: r, M, acc, u, h => by
    unfold Lib.parseUintM at h
    split at h
    · rename_i hc
      split at h
      · cases h
      · split at h
        · cases h
        · have := uintM_digs r M _ u h
          rw [digs_ok hc.1 hc.2, ← this]
          congr 1
          omega
    · cases h
theorem uintB_digs {l : List UInt8} {u : Nat} (h : Lib.parseUintB 64 l = .ok u) : digs 0 l = some (u : Int) := by
  unfold Lib.parseUintB at h
  split at h
  · cases h
  · exact uintM_digs l _ 0 u h
theorem int_digs {l : List UInt8} {v : Int} (h : Lib.parseIntB 64 l = .ok v) (h1 : l.head? ≠ some 45) (h2 : l.head? ≠ some 43) : digs 0 l = some v := by
  cases l with
  | nil => cases h
  | cons c r =>
    have c1 : c.toNat ≠ 45 := fun e => h1 (by rw [List.head?_cons, show c = 45 from UInt8.toNat_inj.1 e])
    have c2 : c.toNat ≠ 43 := fun e => h2 (by rw [List.head?_cons, show c = 43 from UInt8.toNat_inj.1 e])
    unfold Lib.parseIntB at h
    simp only [c1, c2, or_self, if_false, not_false_eq_true, true_and, false_and] at h
    split at h
    · cases h
    · cases h
    · rename_i u hu
      split at h
      · cases h
      · have e : (u : Int) = v := by injection h
        rw [← e]
        exact uintB_digs hu
theorem int_neg {r : List UInt8} {v : Int} (h : Lib.parseIntB 64 (45 :: r) = .ok v) : ∃ u : Nat, digs 0 r = some (u : Int) ∧ v = -(u : Int) := by
  unfold Lib.parseIntB at h
  simp only [show (45 : UInt8).toNat = 45 from rfl, or_true, if_true, not_true_eq_false, false_and, if_false, true_and] at h
  split at h
  · cases h
  · cases h
  · rename_i u hu
    split at h
    · cases h
    · have e : -(u : Int) = v := by injection h
      exact ⟨u, uintB_digs hu, e.symm⟩
theorem canon_itoa {l : List UInt8} {n : Int} (hd : digs 0 l = some n) (hne : l ≠ []) (h48 : l.head? ≠ some 48 ∨ l = [48]) : 0 ≤ n ∧ l = Lib.itoa n := by
  by_cases hz : l = [48]
  · rw [hz] at hd
    have e0 : n = 0 := by
      have e : digs 0 [48] = some 0 := by decide
      rw [e] at hd
      exact (Option.some.inj hd).symm
    rw [hz, e0]
    exact ⟨Int.le_refl _, itoa_zero.symm⟩
  · obtain ⟨k1, k2⟩ := digs_back l n hd hne (h48.resolve_right hz)
    exact ⟨by omega, by rw [itoa_dec (by omega), k2]⟩
theorem canon_ok {l : List UInt8} {n : Int} (hd : digs 0 l = some n) (hne : l ≠ []) (h48 : l.head? ≠ some 48 ∨ l = [48]) (hn : n ≤ 9223372036854775807) : Lib.parseIntB 64 l = .ok n := by
  obtain ⟨h0, e⟩ := canon_itoa hd hne h48
  rw [e]
  exact parseInt_itoa (by omega) hn
theorem digs_all : ∀ (l : List UInt8) (n : Int), (∀ b ∈ l, isD b = true) → ∃ m, digs n l = some m
  | [], n, _ => ⟨n, rfl⟩
  | b :: r, n, h => by
    have hb := h b (List.mem_cons_self ..)
    simp only [isD, Bool.and_eq_true, decide_eq_true_eq] at hb
    obtain ⟨m, hm⟩ := digs_all r (10 * n + ((b.toNat : Int) - 48)) (fun x hx => h x (List.mem_cons_of_mem _ hx))
    exact ⟨m, by rw [digs_ok hb.1 hb.2, hm]⟩
theorem digs_isD : ∀ (l : List UInt8) (n m : Int), digs n l = some m → ∀ b ∈ l, isD b = true
  | [], _, _, _, b, hb => by cases hb
  | c :: r, n, m, h, b, hb => by
    rw [digs] at h
    split at h
    · rename_i hc
      rcases List.mem_cons.1 hb with rfl | hb
      · exact hc
      · exact digs_isD r _ m h b hb
    · cases h
/-! why a text is no number -/
theorem numP_nil {m : Int} : numP m [] = none := by
  unfold numP
  split
  · rw [if_neg (fun h => h.1 rfl)]
  · rfl
theorem numP_zeros {m : Int} {l : List UInt8} (h : l.head? = some 48) (hl : 1 < l.length) : numP m l = none := by
  unfold numP
  split
  · rw [if_neg]
    rintro ⟨_, h2, _⟩
    rcases h2 with h2 | h2
    · exact h2 h
    · rw [h2] at hl; simp at hl
  · rfl
theorem numP_bad {m : Int} {l : List UInt8} {b : UInt8} (hb : b ∈ l) (h : isD b = false) : numP m l = none := by
  unfold numP
  split
  · rename_i n hn
    have := digs_isD l 0 n hn b hb
    rw [h] at this
    cases this
  · rfl
theorem numP_big {m n : Int} {l : List UInt8} (hd : digs 0 l = some n) (hn : m < n) : numP m l = none := by
  unfold numP
  rw [hd]
  simp only []
  rw [if_neg]
  rintro ⟨_, _, h3⟩
  omega
theorem numP_ok {m n : Int} {l : List UInt8} (hd : digs 0 l = some n) (hne : l ≠ []) (h48 : l.head? ≠ some 48 ∨ l = [48]) (hn : n ≤ m) : numP m l = some n := by
  unfold numP
  rw [hd]
  simp only []
  rw [if_pos ⟨hne, h48, hn⟩]
end Go.Proofs.YtneiljaknmeagaaGreatDoor
