/-
  The contracts of limited, check, Norm, rest, Intersect, Minus and Gaps. Their conditions are their hypotheses.
-/
import Derived.Test.YtloioincminhiaaDoorM3
import Derived.Test.YtloioincminhiaaDoorC1
namespace Go.Proofs.YtloioincminhiaaDoor
open Go.RowKit Go.Joins
set_option linter.unusedVariables false
set_option linter.unusedSimpArgs false
/-- A call that gives a list and an error. -/
def RetP (r : List Spn × Int) (W : World) (e : Ending) (w' : World) : Prop := (∃ v, e = .returned (.tuple #[v, .int .i64 r.2]) ∧ w'.ownsRow W.heap.size 32 2 v r.1.length (r.1.flatMap spV)) ∧ Below W.heap.size W w'
theorem any_step {L : List Spn} {k : Nat} {x : Spn} (hk : L[k]? = some x) (h : (L.take k).any outB = false) : (L.take (k + 1)).any outB = outB x := by
  rw [List.take_add_one, hk, List.any_append, h]
  simp
theorem any_hit {L : List Spn} {k : Nat} {x : Spn} (hk : L[k]? = some x) (h : outB x = true) : L.any outB = true := List.any_eq_true.2 ⟨x, List.mem_of_getElem? hk, h⟩
theorem outB_in {x : Spn} (h : x.o ≤ x.i) : outB x = false := by unfold outB; rw [decide_eq_false (by omega)]; rfl
theorem outB_low {x : Spn} (h : x.i < x.o) (h2 : x.i < 0) : outB x = true := by unfold outB; simp [h, h2]
theorem outB_high {x : Spn} (h : x.i < x.o) (h2 : 10378368000 < x.o) : outB x = true := by unfold outB; simp [h, h2]
theorem outB_ok {x : Spn} (h : 0 ≤ x.i) (h2 : x.o ≤ 10378368000) : outB x = false := by
  unfold outB
  rw [decide_eq_false (show ¬ (x.i < 0) by omega), decide_eq_false (show ¬ (mT < x.o) by show ¬ (10378368000 < x.o); omega)]
  simp
theorem norS_long {L : List Spn} (h : 400 < L.length) : norS L = ([], 9) := by unfold norS; rw [if_pos h]
theorem norS_out {L : List Spn} (h : ¬ 400 < L.length) (h2 : L.any outB = true) : norS L = ([], 2) := by unfold norS; rw [if_neg h, if_pos h2]
theorem norS_in {L : List Spn} (h : ¬ 400 < L.length) (h2 : L.any outB = false) : norS L = (joinS L, 0) := by unfold norS; rw [if_neg h, if_neg (by simp [h2])]

theorem lim_any (base : Nat) (v : Value) (L : List Spn) (w : World) (h : w.ownsRow base 32 2 v L.length (L.flatMap spV)) :
    Calls Tryd.prog 38 #[v] w fun e w' => ∃ v', e = .returned (.tuple #[v', .int .i64 (limS L).2]) ∧ w'.ownsRow base 32 2 v' (limS L).1.length ((limS L).1.flatMap spV) ∧ w' = w := by
  obtain ⟨A, c, e, _⟩ := own_form h
  subst e
  have H := Lib.hid h
  clear h
  by_cases hl : 400 < L.length
  · rw [show limS L = ([], 9) by unfold limS; rw [if_pos hl]]
    have h5 : (400 : Int) < (L.length : Int) := by omega
    go_enter Tryd.func38, Tryd.ntmps38
    go_wp2_with fail
    go_ret2
    exact ⟨_, rfl, World.ownsRow_nil _ _ _ _, rfl⟩
  · rw [show limS L = (L, 0) by unfold limS; rw [if_neg hl]]
    have h5 : ¬ ((400 : Int) < (L.length : Int)) := by omega
    go_enter Tryd.func38, Tryd.ntmps38
    go_wp2_with fail
    go_ret2
    exact ⟨_, rfl, H.out, rfl⟩

theorem limr_any (base : Nat) (v : Value) (L : List Spn) (w : World) (h : w.ownsRow base 32 2 v L.length (L.flatMap spV)) :
    Calls Tryd.prog 42 #[v] w fun e w' => ∃ v', e = .returned (.tuple #[v', .int .i64 (limS L).2]) ∧ w'.ownsRow base 32 2 v' (limS L).1.length ((limS L).1.flatMap spV) ∧ w' = w := by
  obtain ⟨A, c, e, _⟩ := own_form h
  subst e
  have H := Lib.hid h
  clear h
  by_cases hl : 400 < L.length
  · rw [show limS L = ([], 9) by unfold limS; rw [if_pos hl]]
    have h5 : (400 : Int) < (L.length : Int) := by omega
    go_enter Tryd.func42, Tryd.ntmps42
    go_wp2_with fail
    go_ret2
    exact ⟨_, rfl, World.ownsRow_nil _ _ _ _, rfl⟩
  · rw [show limS L = (L, 0) by unfold limS; rw [if_neg hl]]
    have h5 : ¬ ((400 : Int) < (L.length : Int)) := by omega
    go_enter Tryd.func42, Tryd.ntmps42
    go_wp2_with fail
    go_ret2
    exact ⟨_, rfl, H.out, rfl⟩

theorem two_any (A : Option Addr) (c : Nat) (L : List Spn) (A2 : Option Addr) (c2 : Nat) (L2 : List Spn) (w : World) (h : SpAt w A L) (h2 : SpAt w A2 L2) (hl : L.length ≤ 1000000) (hl2 : L2.length ≤ 1000000) :
    Calls Tryd.prog 37 #[.slice A L.length c, .slice A2 L2.length c2] w fun e w' => e = .returned (.int .i64 (twoS L L2)) ∧ Below w.heap.size w w' := by
  have H := Lib.hid h
  have H2 := Lib.hid h2
  have HD := Lib.hid (rfl : w.heap.size = w.heap.size)
  obtain ⟨D, hD⟩ : ∃ D, D = w.heap.size := ⟨_, rfl⟩
  have HDD := Lib.hid hD
  rw [← hD]
  clear h h2 hD
  unfold twoS
  cases hc : decide (chkS L = 0) with
  | true =>
    have hc0 : chkS L = 0 := by simpa using hc
    have HC := Lib.hid hc0
    rw [if_pos hc0]
    clear hc hc0
    go_enter Tryd.func37, Tryd.ntmps37
    go_wp2_with fail
    refine (chk_any A c L w H.out (by omega)).mono ?_
    rintro e w1 ⟨rfl, hb⟩
    rw [HC.out]
    have HB := Lib.hid hb
    have H3 := Lib.hid (H2.out.ext hb)
    clear hb
    go_wp2_with fail
    refine (chk_any A2 c2 L2 w1 H3.out (by omega)).mono ?_
    rintro e w2 ⟨rfl, hb2⟩
    go_wp2_with fail
    go_ret
    exact ⟨rfl, HDD.out ▸ HB.out.trans (hb2.mono HB.out.size)⟩
  | false =>
    have hc0 : ¬ (chkS L = 0) := by simpa using hc
    rw [if_neg hc0]
    obtain ⟨E, hE⟩ : ∃ E, E = chkS L := ⟨_, rfl⟩
    have HE := Lib.hid hE
    rw [← hE] at hc0 ⊢
    have hc2 : (E == 0) = false := by simpa using hc0
    clear hc hE
    go_enter Tryd.func37, Tryd.ntmps37
    go_wp2_with fail
    refine (chk_any A c L w H.out (by omega)).mono ?_
    rintro e w1 ⟨rfl, hb⟩
    rw [← HE.out]
    go_wp2_with fail
    go_ret
    exact ⟨rfl, HDD.out ▸ hb⟩

theorem twor_any (A : Option Addr) (c : Nat) (L : List Spn) (A2 : Option Addr) (c2 : Nat) (L2 : List Spn) (w : World) (h : SpAt w A L) (h2 : SpAt w A2 L2) (hl : L.length ≤ 1000000) (hl2 : L2.length ≤ 1000000) :
    Calls Tryd.prog 41 #[.slice A L.length c, .slice A2 L2.length c2] w fun e w' => e = .returned (.int .i64 (twoS L L2)) ∧ Below w.heap.size w w' := by
  have H := Lib.hid h
  have H2 := Lib.hid h2
  have HD := Lib.hid (rfl : w.heap.size = w.heap.size)
  obtain ⟨D, hD⟩ : ∃ D, D = w.heap.size := ⟨_, rfl⟩
  have HDD := Lib.hid hD
  rw [← hD]
  clear h h2 hD
  unfold twoS
  cases hc : decide (chkS L = 0) with
  | true =>
    have hc0 : chkS L = 0 := by simpa using hc
    have HC := Lib.hid hc0
    rw [if_pos hc0]
    clear hc hc0
    go_enter Tryd.func41, Tryd.ntmps41
    go_wp2_with fail
    refine (chkr_any A c L w H.out (by omega)).mono ?_
    rintro e w1 ⟨rfl, hb⟩
    rw [HC.out]
    have HB := Lib.hid hb
    have H3 := Lib.hid (H2.out.ext hb)
    clear hb
    go_wp2_with fail
    refine (chkr_any A2 c2 L2 w1 H3.out (by omega)).mono ?_
    rintro e w2 ⟨rfl, hb2⟩
    go_wp2_with fail
    go_ret
    exact ⟨rfl, HDD.out ▸ HB.out.trans (hb2.mono HB.out.size)⟩
  | false =>
    have hc0 : ¬ (chkS L = 0) := by simpa using hc
    rw [if_neg hc0]
    obtain ⟨E, hE⟩ : ∃ E, E = chkS L := ⟨_, rfl⟩
    have HE := Lib.hid hE
    rw [← hE] at hc0 ⊢
    have hc2 : (E == 0) = false := by simpa using hc0
    clear hc hE
    go_enter Tryd.func41, Tryd.ntmps41
    go_wp2_with fail
    refine (chkr_any A c L w H.out (by omega)).mono ?_
    rintro e w1 ⟨rfl, hb⟩
    rw [← HE.out]
    go_wp2_with fail
    go_ret
    exact ⟨rfl, HDD.out ▸ hb⟩

set_option maxHeartbeats 1000000 in
theorem norm_any (A : Option Addr) (c : Nat) (L : List Spn) (w : World) (h : SpAt w A L) (hl : L.length ≤ 1000000) :
    Calls Tryd.prog 13 #[.slice A L.length c] w (RetP (norS L) w) := by
  have HS := Lib.hid h
  obtain ⟨D, hD⟩ : ∃ D, D = w.heap.size := ⟨_, rfl⟩
  have HD := Lib.hid hD
  unfold RetP
  rw [← hD]
  clear h hD
  by_cases h4 : 400 < L.length
  · rw [norS_long h4]
    have h5 : (400 : Int) < (L.length : Int) := by omega
    go_enter Tryd.func13, Tryd.ntmps13
    go_wp2_with fail
    go_ret2
    exact ⟨⟨_, rfl, World.ownsRow_nil _ _ _ _⟩, Below.refl _ _⟩
  · have H4 := Lib.hid h4
    have h5 : ¬ ((400 : Int) < (L.length : Int)) := by omega
    obtain ⟨R, hR⟩ : ∃ R, R = norS L := ⟨_, rfl⟩
    have HR := Lib.hid hR
    rw [← hR]
    clear hR h4
    go_enter Tryd.func13, Tryd.ntmps13
    go_wp2_with fail
    go_loopw [11] (fun i wr => ∃ k : Nat, k ≤ L.length ∧ i = .int .i64 k ∧ Hid ((L.take k).any outB = false) ∧ Hid (Below D w wr)) (fun i _ => L.length - (intOf i).toNat)
    case atStart => exact ⟨0, by omega, rfl, Lib.hid rfl, Lib.hid (Below.refl _ _)⟩
    case round =>
      obtain ⟨k, hk, rfl, HK, G⟩ := hrel
      have hDw : D ≤ wr.heap.size := by have := G.out.size; have := HD.out; omega
      have HRw := Lib.hid (HS.out.ext (HD.out ▸ G.out))
      by_cases hlt : k < L.length
      · have hlt2 : (k : Int) < (L.length : Int) := by omega
        obtain ⟨x, hx⟩ : ∃ x, L[k]? = some x := ⟨_, List.getElem?_eq_getElem hlt⟩
        have HX := Lib.hid hx
        obtain ⟨g, o, rfl⟩ := SpAt.some HRw.out hx
        obtain ⟨q0, q1⟩ := SpAt.get HRw.out hx
        clear hx
        by_cases c1 : x.i < x.o
        · by_cases c2 : x.i < 0
          · obtain rfl : R = ([], 2) := HR.out.trans (norS_out H4.out (any_hit HX.out (outB_low c1 c2)))
            go_wp2_with fail
            go_ret2
            exact ⟨⟨_, rfl, World.ownsRow_nil _ _ _ _⟩, G.out.alloc hDw _⟩
          · by_cases c3 : 10378368000 < x.o
            · obtain rfl : R = ([], 2) := HR.out.trans (norS_out H4.out (any_hit HX.out (outB_high c1 c3)))
              go_wp2_with fail
              go_ret2
              exact ⟨⟨_, rfl, World.ownsRow_nil _ _ _ _⟩, G.out.alloc hDw _⟩
            · have HK2 := Lib.hid ((any_step HX.out HK.out).trans (outB_ok (by omega) (by omega)))
              go_wp2_with fail
              go_roundw
              case rel => exact ⟨k + 1, by omega, by go_num, HK2, Lib.hid (G.out.alloc hDw _)⟩
              case measure => simp [intOf]; omega
        · have HK2 := Lib.hid ((any_step HX.out HK.out).trans (outB_in (by omega)))
          go_wp2_with fail
          go_roundw
          case rel => exact ⟨k + 1, by omega, by go_num, HK2, Lib.hid (G.out.alloc hDw _)⟩
          case measure => simp [intOf]; omega
      · obtain rfl : k = L.length := by omega
        have hall := HK.out
        rw [List.take_length] at hall
        obtain rfl : R = (joinS L, 0) := HR.out.trans (norS_in H4.out hall)
        clear hlt hall HK
        go_wp2_with fail
        refine (merge_any A c L wr HRw.out (by omega)).mono ?_
        rintro e w2 ⟨⟨v, ys, rfl, hp, hs, ho⟩, hb⟩
        have HO := Lib.hid (show w2.ownsRow D 32 2 v (joinS L).length ((joinS L).flatMap spV) by
          rw [← joinS_of (L := L) hs (fun n => memS_perm hp n)]
          exact ownsRow_mono ho hDw)
        clear hp hs
        have G2 := Lib.hid (G.out.trans (hb.mono hDw))
        clear ho hb G
        go_wp2_with fail
        go_ret2
        exact ⟨⟨_, rfl, HO.out⟩, G2.out⟩

set_option maxHeartbeats 1000000 in
theorem normr_any (A : Option Addr) (c : Nat) (L : List Spn) (w : World) (h : SpAt w A L) (hl : L.length ≤ 1000000) :
    Calls Tryd.prog 14 #[.slice A L.length c] w (RetP (norS L) w) := by
  have HS := Lib.hid h
  obtain ⟨D, hD⟩ : ∃ D, D = w.heap.size := ⟨_, rfl⟩
  have HD := Lib.hid hD
  unfold RetP
  rw [← hD]
  clear h hD
  by_cases h4 : 400 < L.length
  · rw [norS_long h4]
    have h5 : (400 : Int) < (L.length : Int) := by omega
    go_enter Tryd.func14, Tryd.ntmps14
    go_wp2_with fail
    go_ret2
    exact ⟨⟨_, rfl, World.ownsRow_nil _ _ _ _⟩, Below.refl _ _⟩
  · have H4 := Lib.hid h4
    have h5 : ¬ ((400 : Int) < (L.length : Int)) := by omega
    obtain ⟨R, hR⟩ : ∃ R, R = norS L := ⟨_, rfl⟩
    have HR := Lib.hid hR
    rw [← hR]
    clear hR h4
    go_enter Tryd.func14, Tryd.ntmps14
    go_wp2_with fail
    go_loopw [11] (fun i wr => ∃ k : Nat, k ≤ L.length ∧ i = .int .i64 k ∧ Hid ((L.take k).any outB = false) ∧ Hid (Below D w wr)) (fun i _ => L.length - (intOf i).toNat)
    case atStart => exact ⟨0, by omega, rfl, Lib.hid rfl, Lib.hid (Below.refl _ _)⟩
    case round =>
      obtain ⟨k, hk, rfl, HK, G⟩ := hrel
      have hDw : D ≤ wr.heap.size := by have := G.out.size; have := HD.out; omega
      have HRw := Lib.hid (HS.out.ext (HD.out ▸ G.out))
      by_cases hlt : k < L.length
      · have hlt2 : (k : Int) < (L.length : Int) := by omega
        obtain ⟨x, hx⟩ : ∃ x, L[k]? = some x := ⟨_, List.getElem?_eq_getElem hlt⟩
        have HX := Lib.hid hx
        obtain ⟨g, o, rfl⟩ := SpAt.some HRw.out hx
        obtain ⟨q0, q1⟩ := SpAt.get HRw.out hx
        clear hx
        by_cases c1 : x.i < x.o
        · by_cases c2 : x.i < 0
          · obtain rfl : R = ([], 2) := HR.out.trans (norS_out H4.out (any_hit HX.out (outB_low c1 c2)))
            go_wp2_with fail
            go_ret2
            exact ⟨⟨_, rfl, World.ownsRow_nil _ _ _ _⟩, G.out.alloc hDw _⟩
          · by_cases c3 : 10378368000 < x.o
            · obtain rfl : R = ([], 2) := HR.out.trans (norS_out H4.out (any_hit HX.out (outB_high c1 c3)))
              go_wp2_with fail
              go_ret2
              exact ⟨⟨_, rfl, World.ownsRow_nil _ _ _ _⟩, G.out.alloc hDw _⟩
            · have HK2 := Lib.hid ((any_step HX.out HK.out).trans (outB_ok (by omega) (by omega)))
              go_wp2_with fail
              go_roundw
              case rel => exact ⟨k + 1, by omega, by go_num, HK2, Lib.hid (G.out.alloc hDw _)⟩
              case measure => simp [intOf]; omega
        · have HK2 := Lib.hid ((any_step HX.out HK.out).trans (outB_in (by omega)))
          go_wp2_with fail
          go_roundw
          case rel => exact ⟨k + 1, by omega, by go_num, HK2, Lib.hid (G.out.alloc hDw _)⟩
          case measure => simp [intOf]; omega
      · obtain rfl : k = L.length := by omega
        have hall := HK.out
        rw [List.take_length] at hall
        obtain rfl : R = (joinS L, 0) := HR.out.trans (norS_in H4.out hall)
        clear hlt hall HK
        go_wp2_with fail
        refine (join_any A c L wr HRw.out (by omega)).mono ?_
        rintro e w2 ⟨⟨v, rfl, ho⟩, hb⟩
        have HO := Lib.hid (show w2.ownsRow D 32 2 v (joinS L).length ((joinS L).flatMap spV) from ownsRow_mono ho hDw)
        have G2 := Lib.hid (G.out.trans (hb.mono hDw))
        clear ho hb G
        go_wp2_with fail
        go_ret2
        exact ⟨⟨_, rfl, HO.out⟩, G2.out⟩

end Go.Proofs.YtloioincminhiaaDoor
