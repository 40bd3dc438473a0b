/-
  The contract of Within. Its conditions are its hypotheses.
-/
import Derived.Test.YtloioincminhiaaDoorC3
namespace Go.Proofs.YtloioincminhiaaDoor
open Go.RowKit Go.Joins
set_option linter.unusedVariables false
set_option linter.unusedSimpArgs false
def hasB (n : Int) (s : Spn) : Bool := decide (s.i ≤ n) && decide (n < s.o)
def memB (n : Int) (L : List Spn) : Bool := L.any (hasB n)
theorem hasB_iff {n : Int} {s : Spn} : hasB n s = true ↔ s.has n := by unfold hasB Spn.has; simp
theorem memB_iff {n : Int} {L : List Spn} : memB n L = true ↔ MemS n L := by
  unfold memB MemS
  rw [List.any_eq_true]
  constructor
  · rintro ⟨s, h1, h2⟩; exact ⟨s, h1, hasB_iff.1 h2⟩
  · rintro ⟨s, h1, h2⟩; exact ⟨s, h1, hasB_iff.2 h2⟩
theorem has_any (g : Nat) (s : Spn) (n : Int) (w : World) (hg : w.cell? ⟨g, 0, none⟩ = some (.int .i64 n)) :
    Calls Tryd.prog 36 #[spA s, .pointer (some ⟨g, 0, none⟩)] w fun e w' => e = .returned (.bool (hasB n s)) ∧ Below w.heap.size w w' := by
  have hgl := World.block_lt_of_cell? w _ hg
  have hne : g ≠ w.heap.size := Nat.ne_of_lt hgl
  unfold hasB
  by_cases h1 : s.i ≤ n
  · have d1 : decide (s.i ≤ n) = true := by simpa using h1
    rw [d1, Bool.true_and]
    by_cases h2 : n < s.o
    · have d2 : decide (n < s.o) = true := by simpa using h2
      rw [d2]
      go_enter Tryd.func36, Tryd.ntmps36
      go_wp2_with fail
      go_ret
      exact ⟨rfl, below_one _ _⟩
    · have d2 : decide (n < s.o) = false := by simpa using h2
      rw [d2]
      go_enter Tryd.func36, Tryd.ntmps36
      go_wp2_with fail
      go_ret
      exact ⟨rfl, below_one _ _⟩
  · have d1 : decide (s.i ≤ n) = false := by simpa using h1
    rw [d1, Bool.false_and]
    go_enter Tryd.func36, Tryd.ntmps36
    go_wp2_with fail
    go_ret
    exact ⟨rfl, below_one _ _⟩
theorem idx_any (g : Nat) (A : Option Addr) (c : Nat) (L : List Spn) (n : Int) (w : World) (h : SpAt w A L) (hg : w.cell? ⟨g, 0, none⟩ = some (.int .i64 n)) (hl : L.length ≤ 1000000000) :
    Calls Tryd.prog 57 #[.slice A L.length c, .func (.func 36) #[] #[.pointer (some ⟨g, 0, none⟩)]] w fun e w' => ∃ r : Int, e = .returned (.int .i64 r) ∧ decide (0 ≤ r) = memB n L ∧ Below w.heap.size w w' := by
  have H := Lib.hid h
  have HG := Lib.hid hg
  have hgl := World.block_lt_of_cell? w _ hg
  obtain ⟨D, hD⟩ : ∃ D, D = w.heap.size := ⟨_, rfl⟩
  have HD := Lib.hid hD
  rw [← hD] at hgl ⊢
  obtain ⟨R, hR⟩ : ∃ R, R = memB n L := ⟨_, rfl⟩
  have HR := Lib.hid hR
  rw [← hR]
  clear h hg hD hR
  go_enter Tryd.func57, Tryd.ntmps57
  go_wp2_with fail
  go_loopw [8] (fun i wr => ∃ k : Nat, k ≤ L.length ∧ i = .int .i64 k ∧ Hid (∀ j x, j < k → L[j]? = some x → hasB n x = false) ∧ Hid (Below D w wr)) (fun i _ => L.length - (intOf i).toNat)
  case atStart => exact ⟨0, by omega, rfl, Lib.hid (fun j x hj _ => by omega), Lib.hid (Below.refl _ _)⟩
  case round =>
    obtain ⟨k, hk, rfl, HK, G⟩ := hrel
    have hDw : D ≤ wr.heap.size := by have := G.out.size; have := HD.out; omega
    by_cases hlt : k < L.length
    · have hlt2 : (k : Int) < (L.length : Int) := by omega
      obtain ⟨x, hx⟩ : ∃ x, L[k]? = some x := ⟨_, List.getElem?_eq_getElem hlt⟩
      have HX := Lib.hid hx
      have HRw := H.out.ext (HD.out ▸ G.out)
      obtain ⟨gg, o, rfl⟩ := SpAt.some HRw hx
      obtain ⟨q0, q1⟩ := SpAt.get HRw hx
      have hcg := Lib.hid ((G.out.cell (p := ⟨g, 0, none⟩) hgl).trans HG.out)
      clear HRw hx
      go_wp2_with fail
      refine (has_any g x n wr hcg.out).mono ?_
      rintro e w2 ⟨rfl, hb⟩
      have G2 := Lib.hid (G.out.trans (hb.mono hDw))
      clear hb q0 q1
      cases hh : hasB n x with
      | true =>
        obtain rfl : R = true := by rw [HR.out]; unfold memB; rw [List.any_eq_true]; exact ⟨x, List.mem_of_getElem? HX.out, hh⟩
        clear hh
        go_wp2_with fail
        go_ret
        exact ⟨_, rfl, by simp, G2.out⟩
      | false =>
        have HH := Lib.hid hh
        clear hh
        go_wp2_with fail
        go_roundw
        case rel => exact ⟨k + 1, by omega, by go_num, Lib.hid (fun j m hj hm => by
          by_cases hjk : j < k
          · exact HK.out j m hjk hm
          · obtain rfl : j = k := by omega
            rw [HX.out] at hm
            cases hm
            exact HH.out), G2⟩
        case measure => simp [intOf]; omega
    · obtain rfl : k = L.length := by omega
      obtain rfl : R = false := by
        rw [HR.out]
        unfold memB
        rw [List.any_eq_false]
        intro x hx
        obtain ⟨j, hj, e⟩ := List.mem_iff_getElem.1 hx
        have := HK.out j x hj (by rw [List.getElem?_eq_getElem hj, e])
        simp [this]
      clear hlt
      go_wp2_with fail
      go_ret
      exact ⟨_, rfl, by decide, G.out⟩
theorem within_any (A : Option Addr) (c : Nat) (L : List Spn) (n : Int) (w : World) (h : SpAt w A L) (hl : L.length ≤ 1000000000) :
    Calls Tryd.prog 18 #[.slice A L.length c, .int .i64 n] w fun e w' => e = .returned (.bool (memB n L)) ∧ Below w.heap.size w w' := by
  have H := Lib.hid (h.ext (below_one w (.cells #[.int .i64 n] 2)))
  obtain ⟨D, hD⟩ : ∃ D, D = w.heap.size := ⟨_, rfl⟩
  have HD := Lib.hid hD
  rw [← hD]
  have hcf : ∀ (W : World) (R : Bool), Calls Tryd.prog 57 #[.slice A L.length c, .func (.func 36) #[] #[.pointer (some ⟨D, 0, none⟩)]] W (fun e w' => ∃ r : Int, e = .returned (.int .i64 r) ∧ decide (0 ≤ r) = R ∧ Below W.heap.size W w') → Calls Tryd.prog 35 #[.slice A L.length c, .func (.func 36) #[] #[.pointer (some ⟨D, 0, none⟩)]] W fun e w' => e = .returned (.bool R) ∧ Below W.heap.size W w' := by
    intro W R hW
    clear hD h
    go_enter Tryd.func35, Tryd.ntmps35
    go_wp2_with fail
    refine hW.mono ?_
    rintro e w2 ⟨r, rfl, hr, hb⟩
    have HRR := Lib.hid hr
    go_wp2_with fail
    go_ret
    refine ⟨?_, hb⟩
    rw [← HRR.out]
    rfl
  have HCF := Lib.hid (hcf _ _ (idx_any D A c L n _ H.out (by rw [hD]; simp [go_sem]) hl))
  clear h hD hcf
  go_enter Tryd.func18, Tryd.ntmps18
  go_wp2_with fail
  rw [← HD.out]
  refine HCF.out.mono ?_
  rintro e w2 ⟨rfl, hb⟩
  have G2 := Lib.hid (show Below D w w2 from HD.out ▸ ((below_one w _).trans (hb.mono (by simp))))
  clear hb
  go_wp2_with fail
  go_ret
  exact ⟨rfl, G2.out⟩
end Go.Proofs.YtloioincminhiaaDoor
