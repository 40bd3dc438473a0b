/-
  The contracts of plain, in the program and in the reference. Their conditions are their hypotheses.
-/
import Derived.Test.YteojlodcafogaaaGreatDoorBh
import Derived.Test.YteojlodcafogaaaGreatDoorIa
namespace Go.Proofs.YteojlodcafogaaaGreatDoor
open Go.RowKit Go.Joins
set_option linter.unusedVariables false
set_option linter.unusedSimpArgs false
set_option maxHeartbeats 1000000 in
theorem plnf_any (x : Pc) (w : World) :
    Calls Tryz.prog 84 #[pcA x] w fun e w' => e = .returned (.bool (!plnO x)) ∧ Below w.heap.size w w' := by
  obtain ⟨i, o, t, n, d⟩ := x
  cases hp : plnO ⟨i, o, t, n, d⟩ with
  | true =>
    obtain ⟨h1, h2⟩ := plnO_yes hp
    simp only at h1 h2
    subst h1 h2
    clear hp
    go_enter Tryz.func84, Tryz.ntmps84
    go_wp2_with fail
    go_ret
    exact ⟨rfl, below_one _ _⟩
  | false =>
    have h := plnO_no hp
    simp only at h
    clear hp
    rcases h with h | h
    all_goals
      have hb := beq_eq_false_iff_ne.2 h
      go_enter Tryz.func84, Tryz.ntmps84
      go_wp2_with fail
      go_ret
      exact ⟨rfl, below_one _ _⟩
set_option maxHeartbeats 1000000 in
theorem index_any (A : Option Addr) (c : Nat) (L : List Pc) (w : World) (hs : PcAt w A L) (hl : L.length ≤ 1000000) :
    Calls Tryz.prog 114 #[.slice A L.length c, .func (.func 84) #[] #[]] w fun e w' =>
      (∃ k : Int, e = .returned (.int .i64 k) ∧ ((plnB L = true ∧ k = -1) ∨ (plnB L = false ∧ 0 ≤ k))) ∧ Below w.heap.size w w' := by
  have HS := Lib.hid hs
  obtain ⟨D, hD⟩ : ∃ D, D = w.heap.size := ⟨_, rfl⟩
  have HD := Lib.hid hD
  rw [← hD]
  clear hs hD
  go_enter Tryz.func114, Tryz.ntmps114
  go_wp2_with fail
  go_loopw [8] (fun i wr => ∃ k : Nat, k ≤ L.length ∧ i = .int .i64 k ∧ Hid (∀ j x, j < k → L[j]? = some x → plnO x = true) ∧ Hid (Below D w wr)) (fun i _ => L.length - (intOf i).toNat)
  case atStart => exact ⟨0, by omega, rfl, Lib.hid (fun j x hj _ => by omega), Lib.hid (HD.out ▸ Below.refl _ _)⟩
  case round =>
    obtain ⟨k, hk, rfl, HP, G⟩ := hrel
    have hDw : D ≤ wr.heap.size := by have := G.out.size; have := HD.out; omega
    by_cases hlt : k < L.length
    · have hlt2 : (k : Int) < (L.length : Int) := by omega
      obtain ⟨x, hx⟩ : ∃ x, L[k]? = some x := ⟨_, List.getElem?_eq_getElem hlt⟩
      have HX := Lib.hid hx
      have HRw := HS.out.ext (HD.out ▸ G.out)
      obtain ⟨g, o, rfl⟩ := PcAt.some HRw hx
      obtain ⟨q0, q1, q2, q3, q4⟩ := PcAt.get HRw hx
      have HPX := Lib.hid (fun W => plnf_any x W)
      cases hp : plnO x with
      | true =>
        rw [hp] at HPX
        have HPP := Lib.hid hp
        clear HRw hx hp
        go_wp2_with fail
        refine (HPX.out _).mono ?_
        rintro e w3 ⟨rfl, hb⟩
        have G3 := Lib.hid (G.out.trans (hb.mono hDw))
        clear hb
        go_wp2_with fail
        go_roundw
        case rel => exact ⟨k + 1, by omega, by go_num, Lib.hid (fun j y hj hy => by
          by_cases hjk : j < k
          · exact HP.out j y hjk hy
          · obtain rfl : j = k := by omega
            rw [HX.out] at hy
            cases hy
            exact HPP.out), G3⟩
        case measure => simp [intOf]; omega
      | false =>
        rw [hp] at HPX
        have HPP := Lib.hid (plnB_hit hx hp)
        clear HRw hx hp
        go_wp2_with fail
        refine (HPX.out _).mono ?_
        rintro e w3 ⟨rfl, hb⟩
        have G3 := Lib.hid (G.out.trans (hb.mono hDw))
        clear hb
        go_wp2_with fail
        go_ret
        exact ⟨⟨_, rfl, .inr ⟨HPP.out, by omega⟩⟩, G3.out⟩
    · obtain rfl : k = L.length := by omega
      have HPP := Lib.hid (plnB_all HP.out)
      clear hlt
      go_wp2_with fail
      go_ret
      exact ⟨⟨_, rfl, .inl ⟨HPP.out, rfl⟩⟩, G.out⟩
theorem contains_any (A : Option Addr) (c : Nat) (L : List Pc) (w : World) (hs : PcAt w A L) (hl : L.length ≤ 1000000) :
    Calls Tryz.prog 83 #[.slice A L.length c, .func (.func 84) #[] #[]] w fun e w' => e = .returned (.bool (!plnB L)) ∧ Below w.heap.size w w' := by
  have hcon := index_any A c L w hs hl
  obtain ⟨D, hD⟩ : ∃ D, D = w.heap.size := ⟨_, rfl⟩
  rw [← hD] at hcon ⊢
  generalize plnB L = b at *
  clear hD
  go_enter Tryz.func83, Tryz.ntmps83
  go_wp2_with fail
  refine hcon.mono ?_
  rintro e w1 ⟨⟨k, rfl, hk⟩, hb⟩
  have G1 := Lib.hid hb
  clear hb hcon
  rcases hk with ⟨rfl, rfl⟩ | ⟨rfl, h2⟩
  · go_wp2_with fail
    go_ret
    exact ⟨rfl, G1.out⟩
  · go_wp2_with fail
    go_ret
    exact ⟨rfl, G1.out⟩
theorem plain_any (A : Option Addr) (c : Nat) (L : List Pc) (w : World) (hs : PcAt w A L) (hl : L.length ≤ 1000000) :
    Calls Tryz.prog 58 #[.slice A L.length c] w fun e w' => e = .returned (.bool (plnB L)) ∧ Below w.heap.size w w' := by
  have hcon := contains_any A c L w hs hl
  obtain ⟨D, hD⟩ : ∃ D, D = w.heap.size := ⟨_, rfl⟩
  rw [← hD] at hcon ⊢
  generalize plnB L = b at *
  clear hD
  go_enter Tryz.func58, Tryz.ntmps58
  go_wp2_with fail
  refine hcon.mono ?_
  rintro e w1 ⟨rfl, hb⟩
  have G1 := Lib.hid hb
  clear hb hcon
  go_wp2_with fail
  go_ret
  exact ⟨by simp, G1.out⟩
set_option maxHeartbeats 1000000 in
theorem plainr_any (A : Option Addr) (c : Nat) (L : List Pc) (w : World) (hs : PcAt w A L) (hl : L.length ≤ 1000000) :
    Calls Tryz.prog 63 #[.slice A L.length c] w fun e w' => e = .returned (.bool (plnB L)) ∧ Below w.heap.size w w' := by
  have HS := Lib.hid hs
  obtain ⟨D, hD⟩ : ∃ D, D = w.heap.size := ⟨_, rfl⟩
  have HD := Lib.hid hD
  rw [← hD]
  obtain ⟨R, hR⟩ : ∃ R, R = plnB L := ⟨_, rfl⟩
  have HR := Lib.hid hR
  rw [← hR]
  clear hs hD hR
  go_enter Tryz.func63, Tryz.ntmps63
  go_wp2_with fail
  go_loopw [7] (fun i wr => ∃ k : Nat, k ≤ L.length ∧ i = .int .i64 k ∧ Hid (∀ j x, j < k → L[j]? = some x → plnO x = true) ∧ Hid (Below D w wr)) (fun i _ => L.length - (intOf i).toNat)
  case atStart => exact ⟨0, by omega, rfl, Lib.hid (fun j x hj _ => by omega), Lib.hid (HD.out ▸ Below.refl _ _)⟩
  case round =>
    obtain ⟨k, hk, rfl, HP, G⟩ := hrel
    have hDw : D ≤ wr.heap.size := by have := G.out.size; have := HD.out; omega
    by_cases hlt : k < L.length
    · have hlt2 : (k : Int) < (L.length : Int) := by omega
      obtain ⟨x, hx⟩ : ∃ x, L[k]? = some x := ⟨_, List.getElem?_eq_getElem hlt⟩
      have HX := Lib.hid hx
      have HRw := HS.out.ext (HD.out ▸ G.out)
      obtain ⟨g, o, rfl⟩ := PcAt.some HRw hx
      cases hp : plnO x with
      | true =>
        have HPP := Lib.hid hp
        obtain ⟨xi, xo, xt, xn, xd⟩ := x
        obtain ⟨h1, h2⟩ := plnO_yes hp
        simp only at h1 h2
        subst h1 h2
        obtain ⟨q0, q1, q2, q3, q4⟩ := PcAt.get HRw hx
        clear HRw hx hp
        go_wp2_with fail
        go_roundw
        case rel => exact ⟨k + 1, by omega, by go_num, Lib.hid (fun j y hj hy => by
          by_cases hjk : j < k
          · exact HP.out j y hjk hy
          · obtain rfl : j = k := by omega
            rw [HX.out] at hy
            cases hy
            exact HPP.out), Lib.hid (G.out.alloc hDw _)⟩
        case measure => simp [intOf]; omega
      | false =>
        obtain rfl : R = false := HR.out.trans (plnB_hit hx hp)
        obtain ⟨xi, xo, xt, xn, xd⟩ := x
        have h := plnO_no hp
        simp only at h
        obtain ⟨q0, q1, q2, q3, q4⟩ := PcAt.get HRw hx
        clear HRw hx hp
        rcases h with h | h
        all_goals
          have hb := beq_eq_false_iff_ne.2 h
          go_wp2_with fail
          go_ret
          exact ⟨rfl, G.out.alloc hDw _⟩
    · obtain rfl : k = L.length := by omega
      obtain rfl : R = true := HR.out.trans (plnB_all HP.out)
      clear hlt
      go_wp2_with fail
      go_ret
      exact ⟨rfl, G.out⟩
end Go.Proofs.YteojlodcafogaaaGreatDoor
