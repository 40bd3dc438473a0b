/-
  The contracts of Check, in the program and in the reference. Their conditions are their hypotheses.
-/
import Derived.Test.YtloioincminhiaaDoorG1
namespace Go.Proofs.YtloioincminhiaaDoor
open Go.RowKit Go.Joins
set_option linter.unusedVariables false
set_option linter.unusedSimpArgs false
/-- The end of the span ahead. -/
def pv (L : List Spn) (k : Nat) : Option Int := match k with | 0 => none | k + 1 => (L[k]?).map (·.o)
theorem chk_step {L : List Spn} {k : Nat} {x : Spn} (hk : L[k]? = some x) : chkL (pv L k) (L.drop k) =
    if x.i < 0 ∨ mT < x.o then 2 else if x.o ≤ x.i then 1 else if aft (pv L k) x.i = true then 8 else chkL (pv L (k + 1)) (L.drop (k + 1)) := by
  obtain ⟨h, e⟩ := List.getElem?_eq_some_iff.1 hk
  rw [List.drop_eq_getElem_cons h, e]
  show chkL (pv L k) (x :: L.drop (k + 1)) = _
  rw [show pv L (k + 1) = some x.o by simp [pv, hk]]
  rfl
set_option maxHeartbeats 1000000 in
theorem chk_any (A : Option Addr) (c : Nat) (L : List Spn) (w : World) (hs : SpAt w A L) (hl : L.length ≤ 1000000000) :
    Calls Tryd.prog 16 #[.slice A L.length c] w fun e w' => e = .returned (.int .i64 (chkS L)) ∧ Below w.heap.size w w' := by
  have HS := Lib.hid hs
  clear hs
  obtain ⟨D, hD⟩ : ∃ D, D = w.heap.size := ⟨_, rfl⟩
  have HD := Lib.hid hD
  rw [← hD]
  clear hD
  by_cases h4 : 400 < L.length
  · rw [show chkS L = 9 by unfold chkS; rw [if_pos h4]]
    have h5 : (400 : Int) < (L.length : Int) := by omega
    go_enter Tryd.func16, Tryd.ntmps16
    go_wp2_with fail
    go_ret
    exact ⟨rfl, Below.refl _ _⟩
  · rw [show chkS L = chkL none L by unfold chkS; rw [if_neg h4]]
    have h5 : ¬ ((400 : Int) < (L.length : Int)) := by omega
    obtain ⟨R, hR⟩ : ∃ R, R = chkL none L := ⟨_, rfl⟩
    have HR := Lib.hid (show R = chkL (pv L 0) (L.drop 0) from hR)
    rw [← hR]
    clear hR
    go_enter Tryd.func16, Tryd.ntmps16
    go_wp2_with fail
    go_loopw [10] (fun i wr => ∃ k : Nat, k ≤ L.length ∧ i = .int .i64 k ∧ Hid (R = chkL (pv L k) (L.drop k)) ∧ Hid (Below D w wr)) (fun i _ => L.length - (intOf i).toNat)
    case atStart => exact ⟨0, by omega, rfl, HR, Lib.hid (Below.refl _ _)⟩
    case round =>
      obtain ⟨k, hk, rfl, HK, G⟩ := hrel
      clear HR
      have hDw : D ≤ wr.heap.size := by have := G.out.size; have := HD.out; omega
      by_cases hlt : k < L.length
      · have hlt2 : (k : Int) < (L.length : Int) := by omega
        obtain ⟨x, hx⟩ : ∃ x, L[k]? = some x := ⟨_, List.getElem?_eq_getElem hlt⟩
        have HX := Lib.hid hx
        have HRw := HS.out.below (HD.out ▸ G.out) (Nat.le_refl _)
        obtain ⟨g, o, rfl⟩ := SpAt.some HRw hx
        obtain ⟨q0, q1⟩ := SpAt.get HRw hx
        have hst := HK.out.trans (chk_step hx)
        by_cases h1 : x.i < 0
        · rw [if_pos (.inl h1)] at hst
          subst hst
          clear HRw hx HK
          go_wp2_with fail
          go_ret
          exact ⟨rfl, (G.out.alloc hDw _)⟩
        · by_cases h2 : 10378368000 < x.o
          · rw [if_pos (.inr h2)] at hst
            subst hst
            clear HRw hx HK
            go_wp2_with fail
            go_ret
            exact ⟨rfl, (G.out.alloc hDw _)⟩
          · rw [if_neg (by show ¬ (x.i < 0 ∨ 10378368000 < x.o); omega)] at hst
            by_cases h3 : x.o ≤ x.i
            · rw [if_pos h3] at hst
              subst hst
              clear HRw hx HK
              go_wp2_with fail
              go_ret
              exact ⟨rfl, (G.out.alloc hDw _)⟩
            · rw [if_neg h3] at hst
              by_cases hk0 : k = 0
              · subst hk0
                rw [if_neg (by simp [pv, aft])] at hst
                have HST := Lib.hid hst
                simp only [Nat.zero_mul, Nat.add_zero] at q0 q1
                clear HRw hx HK hst
                go_wp2_with fail
                generalize hw2 : World.alloc wr _ = w2
                have F2 : Held w2 wr.heap.size [.int .i64 x.i, .int .i64 x.o] := by subst hw2; exact Held.new rfl
                obtain ⟨z0, z1⟩ := two_of F2
                have G2 := Lib.hid (show Below D w w2 by subst hw2; exact G.out.alloc hDw _)
                clear hw2 q0 q1 F2
                go_quiet (fail)
                all_goals
                  go_wp2_with fail
                  go_roundw
                  case rel => exact ⟨1, by omega, by go_num, HST, Lib.hid (below_drewN G2.out _)⟩
                  case measure => simp [intOf]; omega
              · obtain ⟨m, hm⟩ : ∃ m, k = m + 1 := ⟨k - 1, by omega⟩
                obtain ⟨y, hy⟩ : ∃ y, L[m]? = some y := ⟨_, List.getElem?_eq_getElem (by omega)⟩
                have hpv : pv L k = some y.o := by rw [hm]; simp [pv, hy]
                rw [hpv] at hst
                have m2 : 0 < k := by omega
                have m5 : decide (0 < k) = true := by simpa using m2
                have m3 : IntKind.i64.wrap ((k : Int) - 1) = (m : Int) := by rw [IntKind.wrap_i64]; omega
                have m4 : (m : Int) < (L.length : Int) := by omega
                have HY := Lib.hid hy
                have HRW := Lib.hid HRw
                clear hy hx HK hm hpv HRw
                by_cases h6 : x.i ≤ y.o
                · rw [if_pos (by simpa [aft] using h6)] at hst
                  subst hst
                  go_wp2_with fail
                  generalize hw2 : World.alloc wr _ = w2
                  have F2 : Held w2 wr.heap.size [.int .i64 x.i, .int .i64 x.o] := by subst hw2; exact Held.new rfl
                  obtain ⟨z0, z1⟩ := two_of F2
                  obtain ⟨r0, r1⟩ := SpAt.get (HRW.out.ext (hw2 ▸ below_one wr _)) HY.out
                  have G2 := Lib.hid (show Below D w w2 by subst hw2; exact G.out.alloc hDw _)
                  clear hw2 q0 q1 F2
                  go_quiet (fail)
                  all_goals
                    go_wp2_with fail
                    go_ret
                    exact ⟨rfl, below_drewN G2.out _⟩
                · rw [if_neg (by simpa [aft] using h6)] at hst
                  have HST := Lib.hid hst
                  clear hst
                  go_wp2_with fail
                  generalize hw2 : World.alloc wr _ = w2
                  have F2 : Held w2 wr.heap.size [.int .i64 x.i, .int .i64 x.o] := by subst hw2; exact Held.new rfl
                  obtain ⟨z0, z1⟩ := two_of F2
                  obtain ⟨r0, r1⟩ := SpAt.get (HRW.out.ext (hw2 ▸ below_one wr _)) HY.out
                  have G2 := Lib.hid (show Below D w w2 by subst hw2; exact G.out.alloc hDw _)
                  clear hw2 q0 q1 F2
                  go_quiet (fail)
                  all_goals
                    go_wp2_with fail
                    go_roundw
                    case rel => exact ⟨k + 1, by omega, by go_num, HST, Lib.hid (below_drewN G2.out _)⟩
                    case measure => simp [intOf]; omega
      · obtain rfl : k = L.length := by omega
        have hst : R = 0 := by rw [HK.out, List.drop_length]; rfl
        subst hst
        clear hlt HK
        go_wp2_with fail
        go_ret
        exact ⟨rfl, G.out⟩
set_option maxHeartbeats 1000000 in
theorem chkr_any (A : Option Addr) (c : Nat) (L : List Spn) (w : World) (hs : SpAt w A L) (hl : L.length ≤ 1000000000) :
    Calls Tryd.prog 17 #[.slice A L.length c] w fun e w' => e = .returned (.int .i64 (chkS L)) ∧ Below w.heap.size w w' := by
  have HS := Lib.hid hs
  clear hs
  obtain ⟨D, hD⟩ : ∃ D, D = w.heap.size := ⟨_, rfl⟩
  have HD := Lib.hid hD
  rw [← hD]
  clear hD
  by_cases h4 : 400 < L.length
  · rw [show chkS L = 9 by unfold chkS; rw [if_pos h4]]
    have h5 : (400 : Int) < (L.length : Int) := by omega
    go_enter Tryd.func17, Tryd.ntmps17
    go_wp2_with fail
    go_ret
    exact ⟨rfl, Below.refl _ _⟩
  · rw [show chkS L = chkL none L by unfold chkS; rw [if_neg h4]]
    have h5 : ¬ ((400 : Int) < (L.length : Int)) := by omega
    obtain ⟨R, hR⟩ : ∃ R, R = chkL none L := ⟨_, rfl⟩
    have HR := Lib.hid (show R = chkL (pv L 0) (L.drop 0) from hR)
    rw [← hR]
    clear hR
    go_enter Tryd.func17, Tryd.ntmps17
    go_wp2_with fail
    go_loopw [10] (fun i wr => ∃ k : Nat, k ≤ L.length ∧ i = .int .i64 k ∧ Hid (R = chkL (pv L k) (L.drop k)) ∧ Hid (Below D w wr)) (fun i _ => L.length - (intOf i).toNat)
    case atStart => exact ⟨0, by omega, rfl, HR, Lib.hid (Below.refl _ _)⟩
    case round =>
      obtain ⟨k, hk, rfl, HK, G⟩ := hrel
      clear HR
      have hDw : D ≤ wr.heap.size := by have := G.out.size; have := HD.out; omega
      by_cases hlt : k < L.length
      · have hlt2 : (k : Int) < (L.length : Int) := by omega
        obtain ⟨x, hx⟩ : ∃ x, L[k]? = some x := ⟨_, List.getElem?_eq_getElem hlt⟩
        have HX := Lib.hid hx
        have HRw := HS.out.below (HD.out ▸ G.out) (Nat.le_refl _)
        obtain ⟨g, o, rfl⟩ := SpAt.some HRw hx
        obtain ⟨q0, q1⟩ := SpAt.get HRw hx
        have hst := HK.out.trans (chk_step hx)
        by_cases h1 : x.i < 0
        · rw [if_pos (.inl h1)] at hst
          subst hst
          clear HRw hx HK
          go_wp2_with fail
          go_ret
          exact ⟨rfl, (G.out.alloc hDw _)⟩
        · by_cases h2 : 10378368000 < x.o
          · rw [if_pos (.inr h2)] at hst
            subst hst
            clear HRw hx HK
            go_wp2_with fail
            go_ret
            exact ⟨rfl, (G.out.alloc hDw _)⟩
          · rw [if_neg (by show ¬ (x.i < 0 ∨ 10378368000 < x.o); omega)] at hst
            by_cases h3 : x.o ≤ x.i
            · rw [if_pos h3] at hst
              subst hst
              clear HRw hx HK
              go_wp2_with fail
              go_ret
              exact ⟨rfl, (G.out.alloc hDw _)⟩
            · rw [if_neg h3] at hst
              by_cases hk0 : k = 0
              · subst hk0
                rw [if_neg (by simp [pv, aft])] at hst
                have HST := Lib.hid hst
                simp only [Nat.zero_mul, Nat.add_zero] at q0 q1
                clear HRw hx HK hst
                go_wp2_with fail
                generalize hw2 : World.alloc wr _ = w2
                have F2 : Held w2 wr.heap.size [.int .i64 x.i, .int .i64 x.o] := by subst hw2; exact Held.new rfl
                obtain ⟨z0, z1⟩ := two_of F2
                have G2 := Lib.hid (show Below D w w2 by subst hw2; exact G.out.alloc hDw _)
                clear hw2 q0 q1 F2
                go_quiet (fail)
                all_goals
                  go_wp2_with fail
                  go_roundw
                  case rel => exact ⟨1, by omega, by go_num, HST, Lib.hid (below_drewN G2.out _)⟩
                  case measure => simp [intOf]; omega
              · obtain ⟨m, hm⟩ : ∃ m, k = m + 1 := ⟨k - 1, by omega⟩
                obtain ⟨y, hy⟩ : ∃ y, L[m]? = some y := ⟨_, List.getElem?_eq_getElem (by omega)⟩
                have hpv : pv L k = some y.o := by rw [hm]; simp [pv, hy]
                rw [hpv] at hst
                have m2 : 0 < k := by omega
                have m5 : decide (0 < k) = true := by simpa using m2
                have m3 : IntKind.i64.wrap ((k : Int) - 1) = (m : Int) := by rw [IntKind.wrap_i64]; omega
                have m4 : (m : Int) < (L.length : Int) := by omega
                have HY := Lib.hid hy
                have HRW := Lib.hid HRw
                clear hy hx HK hm hpv HRw
                by_cases h6 : x.i ≤ y.o
                · rw [if_pos (by simpa [aft] using h6)] at hst
                  subst hst
                  go_wp2_with fail
                  generalize hw2 : World.alloc wr _ = w2
                  have F2 : Held w2 wr.heap.size [.int .i64 x.i, .int .i64 x.o] := by subst hw2; exact Held.new rfl
                  obtain ⟨z0, z1⟩ := two_of F2
                  obtain ⟨r0, r1⟩ := SpAt.get (HRW.out.ext (hw2 ▸ below_one wr _)) HY.out
                  have G2 := Lib.hid (show Below D w w2 by subst hw2; exact G.out.alloc hDw _)
                  clear hw2 q0 q1 F2
                  go_quiet (fail)
                  all_goals
                    go_wp2_with fail
                    go_ret
                    exact ⟨rfl, below_drewN G2.out _⟩
                · rw [if_neg (by simpa [aft] using h6)] at hst
                  have HST := Lib.hid hst
                  clear hst
                  go_wp2_with fail
                  generalize hw2 : World.alloc wr _ = w2
                  have F2 : Held w2 wr.heap.size [.int .i64 x.i, .int .i64 x.o] := by subst hw2; exact Held.new rfl
                  obtain ⟨z0, z1⟩ := two_of F2
                  obtain ⟨r0, r1⟩ := SpAt.get (HRW.out.ext (hw2 ▸ below_one wr _)) HY.out
                  have G2 := Lib.hid (show Below D w w2 by subst hw2; exact G.out.alloc hDw _)
                  clear hw2 q0 q1 F2
                  go_quiet (fail)
                  all_goals
                    go_wp2_with fail
                    go_roundw
                    case rel => exact ⟨k + 1, by omega, by go_num, HST, Lib.hid (below_drewN G2.out _)⟩
                    case measure => simp [intOf]; omega
      · obtain rfl : k = L.length := by omega
        have hst : R = 0 := by rw [HK.out, List.drop_length]; rfl
        subst hst
        clear hlt HK
        go_wp2_with fail
        go_ret
        exact ⟨rfl, G.out⟩
end Go.Proofs.YtloioincminhiaaDoor
