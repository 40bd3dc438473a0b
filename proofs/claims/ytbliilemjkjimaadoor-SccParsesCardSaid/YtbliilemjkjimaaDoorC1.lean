/-
  The contracts of null, few, Check and SameStream, in the program and in the reference. Their conditions are their hypotheses.
-/
import Derived.Test.YtbliilemjkjimaaDoorSs
import Derived.Test.YtbliilemjkjimaaDoorSt
import Derived.Test.YtbliilemjkjimaaDoorAny
namespace Go.Proofs.YtbliilemjkjimaaDoor
open Go.RowKit
set_option linter.unusedVariables false
set_option linter.unusedSimpArgs false
theorem below_one (w : World) (o : Obj) : Below w.heap.size w (w.alloc o) := (Below.refl _ _).alloc (Nat.le_refl _) _
def byteV (b : UInt8) : Value := .int .u8 b.toNat
def BytesAt (w : World) (A : Option Addr) (bs : List UInt8) : Prop := RowAt w A (bs.map byteV)
theorem BytesAt.get {w : World} {A : Option Addr} {bs : List UInt8} (h : BytesAt w A bs) {k : Nat} (hk : k < bs.length) : ∃ b o, A = some ⟨b, o, none⟩ ∧ w.cell? ⟨b, o + k, none⟩ = some (byteV bs[k]) := by
  have := RowAt.get h (k := k) (by simpa using hk)
  simpa using this
theorem BytesAt.ext {w w' : World} {A : Option Addr} {bs : List UInt8} (h : BytesAt w A bs) (hb : Below w.heap.size w w') : BytesAt w' A bs := RowAt.ext h hb
theorem BytesAt.drewN {w : World} {A : Option Addr} {bs : List UInt8} (h : BytesAt w A bs) (n : Nat) : BytesAt (w.drewN n) A bs := RowAt.drewN h n
theorem BytesAt.take {w : World} {A : Option Addr} {bs : List UInt8} (h : BytesAt w A bs) (n : Nat) : BytesAt w A (bs.take n) := by
  have := RowAt.take h n
  rwa [← List.map_take] at this
theorem BytesAt.drop {w : World} {b o : Nat} {bs : List UInt8} (h : BytesAt w (some ⟨b, o, none⟩) bs) (n : Nat) : BytesAt w (some ⟨b, o + n, none⟩) (bs.drop n) := by
  intro k u hk
  rw [List.map_drop, List.getElem?_drop] at hk
  obtain ⟨b2, o2, e, hc⟩ := h (n + k) u hk
  cases e
  exact ⟨_, _, rfl, by rw [Nat.add_assoc]; exact hc⟩
theorem byte_eq {a : UInt8} : ((a.toNat : Int) == 128) = decide (a = 128) := by
  rw [Bool.eq_iff_iff]
  simp
  constructor
  · intro h; exact UInt8.toNat_inj.1 (by simp; omega)
  · rintro rfl; rfl
theorem null_any (A : Option Addr) (n c : Nat) (a b : UInt8) (r : List UInt8) (w : World) (h : BytesAt w A (a :: b :: r)) (hn : 2 ≤ n) (hl : n ≤ 9223372036854775807) :
    Calls Tryd.prog 26 #[.slice A n c] w fun e w' => e = .returned (.bool (isN (a, b))) ∧ w = w' := by
  obtain ⟨b0, o, rfl, h0⟩ := h.get (k := 0) (by simp)
  obtain ⟨b1, o1, e, h1⟩ := h.get (k := 1) (by simp)
  cases e
  simp only [List.getElem_cons_zero, List.getElem_cons_succ, byteV, Nat.add_zero] at h0 h1
  have HV : isN (a, b) = (((a.toNat : Int) == 128) && ((b.toNat : Int) == 128)) := by rw [byte_eq, byte_eq, isN, Bool.eq_iff_iff]; simp
  rw [HV]
  clear HV h
  have ha : a.toNat < 256 := a.toNat_lt
  have hb : b.toNat < 256 := b.toNat_lt
  cases hx : ((a.toNat : Int) == 128)
  · go_enter Tryd.func26, Tryd.ntmps26
    go_wp2_with fail
    go_ret
    exact ⟨rfl, rfl⟩
  · go_enter Tryd.func26, Tryd.ntmps26
    go_wp2_with fail
    go_ret
    exact ⟨rfl, rfl⟩
theorem nullr_any (A : Option Addr) (n c k : Nat) (bs : List UInt8) (w : World) (h : BytesAt w A bs) (hn : bs.length ≤ n) (hk : 2 * k + 1 < bs.length) (hl : n ≤ 9223372036854775807) :
    Calls Tryd.prog 27 #[.slice A n c, .int .i64 k] w fun e w' => e = .returned (.bool (isN (bs[2 * k], bs[2 * k + 1]))) ∧ w = w' := by
  obtain ⟨b0, o, rfl, h0⟩ := h.get (k := 2 * k) (by omega)
  obtain ⟨b1, o1, e, h1⟩ := h.get (k := 2 * k + 1) (by omega)
  cases e
  generalize bs[2 * k] = a at *
  generalize bs[2 * k + 1] = b at *
  have HL := Lib.hid (And.intro hn (And.intro hk hl))
  simp only [byteV] at h0 h1
  have HV : isN (a, b) = (((a.toNat : Int) == 128) && ((b.toNat : Int) == 128)) := by rw [byte_eq, byte_eq, isN, Bool.eq_iff_iff]; simp
  rw [HV]
  clear HV h
  have ha : a.toNat < 256 := a.toNat_lt
  have hb : b.toNat < 256 := b.toNat_lt
  have e1 : (2 * (k : Int)).toNat = 2 * k := by omega
  have e2 : (2 * (k : Int) + 1).toNat = 2 * k + 1 := by omega
  cases hx : ((a.toNat : Int) == 128)
  · go_enter Tryd.func27, Tryd.ntmps27
    go_wp2_with fail
    go_ret
    exact ⟨rfl, rfl⟩
  · go_enter Tryd.func27, Tryd.ntmps27
    go_wp2_with fail
    go_ret
    exact ⟨rfl, rfl⟩
def strm (f : Int) (A : Option Addr) (n c : Nat) : Value := .agg #[.int .i64 f, .slice A n c]
theorem check_any (f : Int) (A : Option Addr) (n c : Nat) (w : World) (hn : n ≤ 9223372036854775807) :
    Calls Tryd.prog 15 #[strm f A n c] w fun e w' => e = .returned (.int .i64 (chkS f n)) ∧ Below w.heap.size w w' := by
  unfold strm
  obtain ⟨R, hR⟩ : ∃ R, R = chkS f n := ⟨_, rfl⟩
  rw [← hR]
  have e1 : ((n : Int).tmod 2) = ((n % 2 : Nat) : Int) := by rw [Int.tmod_eq_emod_of_nonneg (by omega)]; omega
  unfold chkS at hR
  by_cases h1 : n % 2 = 0
  · by_cases h2 : 400000 < n
    · rw [if_neg (by omega), if_pos h2] at hR
      subst hR
      go_enter Tryd.func15, Tryd.ntmps15
      go_wp2_with fail
      go_ret
      exact ⟨rfl, below_one _ _⟩
    · rw [if_neg (by omega), if_neg h2] at hR
      by_cases h3 : f < 0
      · rw [if_pos (.inl h3)] at hR
        subst hR
        go_enter Tryd.func15, Tryd.ntmps15
        go_wp2_with fail
        go_ret
        exact ⟨rfl, below_one _ _⟩
      · by_cases h4 : 5184000 < f
        · rw [if_pos (.inr h4)] at hR
          subst hR
          go_enter Tryd.func15, Tryd.ntmps15
          go_wp2_with fail
          go_ret
          exact ⟨rfl, below_one _ _⟩
        · rw [if_neg (by omega)] at hR
          subst hR
          go_enter Tryd.func15, Tryd.ntmps15
          go_wp2_with fail
          go_ret
          exact ⟨rfl, below_one _ _⟩
  · rw [if_pos h1] at hR
    subst hR
    go_enter Tryd.func15, Tryd.ntmps15
    go_wp2_with fail
    go_ret
    exact ⟨rfl, below_one _ _⟩
theorem checkr_any (f : Int) (A : Option Addr) (n c : Nat) (w : World) (hn : n ≤ 9223372036854775807) :
    Calls Tryd.prog 16 #[strm f A n c] w fun e w' => e = .returned (.int .i64 (chkS f n)) ∧ Below w.heap.size w w' := by
  unfold strm
  obtain ⟨R, hR⟩ : ∃ R, R = chkS f n := ⟨_, rfl⟩
  rw [← hR]
  have e1 : ((n : Int).tmod 2) = ((n % 2 : Nat) : Int) := by rw [Int.tmod_eq_emod_of_nonneg (by omega)]; omega
  have e2 : ((n : Int).tdiv 2) = ((n / 2 : Nat) : Int) := by rw [Int.tdiv_eq_ediv_of_nonneg (by omega)]; omega
  unfold chkS at hR
  by_cases h1 : n % 2 = 0
  · by_cases h2 : 400000 < n
    · rw [if_neg (by omega), if_pos h2] at hR
      subst hR
      go_enter Tryd.func16, Tryd.ntmps16
      go_wp2_with fail
      go_ret
      exact ⟨rfl, below_one _ _⟩
    · rw [if_neg (by omega), if_neg h2] at hR
      by_cases h3 : f < 0
      · rw [if_pos (.inl h3)] at hR
        subst hR
        go_enter Tryd.func16, Tryd.ntmps16
        go_wp2_with fail
        go_ret
        exact ⟨rfl, below_one _ _⟩
      · by_cases h4 : 5184000 < f
        · rw [if_pos (.inr h4)] at hR
          subst hR
          go_enter Tryd.func16, Tryd.ntmps16
          go_wp2_with fail
          go_ret
          exact ⟨rfl, below_one _ _⟩
        · rw [if_neg (by omega)] at hR
          subst hR
          go_enter Tryd.func16, Tryd.ntmps16
          go_wp2_with fail
          go_ret
          exact ⟨rfl, below_one _ _⟩
  · rw [if_pos h1] at hR
    subst hR
    go_enter Tryd.func16, Tryd.ntmps16
    go_wp2_with fail
    go_ret
    exact ⟨rfl, below_one _ _⟩
theorem few_any (f : Int) (A : Option Addr) (n c : Nat) (w : World) (h : n ≤ c) (hc : c ≤ maxLen) :
    Calls Tryd.prog 11 #[strm f A n c] w fun e w' => e = .returned (strm f A (min n 120) c) ∧ Below w.heap.size w w' := by
  have hm : c ≤ 9223372036854775807 := by simpa [maxLen] using hc
  clear hc
  unfold strm
  have e : (min (n : Int) 120).toNat = min n 120 := by omega
  go_enter Tryd.func11, Tryd.ntmps11
  go_wp2_with fail
  all_goals refine bodyPost_ret (by simp [results, Tryd.results11, go_sem]; try rfl) rfl ?_
  · exact ⟨by rw [show min n 120 = 120 from by omega], (below_one _ _).alloc (by simp) _⟩
  · exact ⟨by rw [show min n 120 = n from by omega], (below_one _ _).alloc (by simp) _⟩
end Go.Proofs.YtbliilemjkjimaaDoor
