/-
  The law ShotsInside at every input. Its conditions are its hypotheses.
-/
import Derived.Test.YtnnhbnkelgmaaaaDoorC6
import Derived.Test.YtnnhbnkelgmaaaaDoorC7
namespace Go.Proofs.YtnnhbnkelgmaaaaDoor
open Go.RowKit
set_option linter.unusedVariables false
set_option linter.unusedSimpArgs false
def shotR (f : Int) (xs : List Int) : (Int × Int) × Bool := if (chkS xs == 0) = false ∨ fr f = false then ((0, 0), false) else (shotG f 0 xs, true)
theorem not_no {f : Int} {xs : List Int} (h : ¬ ((chkS xs == 0) = false ∨ fr f = false)) : chkS xs = 0 ∧ fr f = true := by
  simp at h
  exact h
theorem shot_any (A : Option Addr) (c : Nat) (xs : List Int) (f : Int) (w : World) (h : IntsAt w A xs) (hl : xs.length ≤ 9223372036854775807) :
    Calls Tryd.prog 20 #[.slice A xs.length c, .int .i64 f] w fun e w' => e = .returned (.tuple #[.agg #[.int .i64 (shotR f xs).1.1, .int .i64 (shotR f xs).1.2], .bool (shotR f xs).2]) ∧ Below w.heap.size w w' := by
  by_cases hh : (chkS xs == 0) = false ∨ fr f = false
  · rw [show shotR f xs = ((0, 0), false) by unfold shotR; rw [if_pos hh]]; exact shot_no A c xs f w h hl hh
  · rw [show shotR f xs = (shotG f 0 xs, true) by unfold shotR; rw [if_neg hh]]; exact shot_yes A c xs f w h hl (not_no hh).1 (not_no hh).2
theorem shotr_any (A : Option Addr) (c : Nat) (xs : List Int) (f : Int) (w : World) (h : IntsAt w A xs) (hl : xs.length ≤ 9223372036854775807) :
    Calls Tryd.prog 21 #[.slice A xs.length c, .int .i64 f] w fun e w' => e = .returned (.tuple #[.agg #[.int .i64 (shotR f xs).1.1, .int .i64 (shotR f xs).1.2], .bool (shotR f xs).2]) ∧ Below w.heap.size w w' := by
  by_cases hh : (chkS xs == 0) = false ∨ fr f = false
  · rw [show shotR f xs = ((0, 0), false) by unfold shotR; rw [if_pos hh]]; exact shotr_no A c xs f w h hl hh
  · rw [show shotR f xs = (shotG f 0 xs, true) by unfold shotR; rw [if_neg hh]]; exact shotr_yes A c xs f w h hl (not_no hh).1 (not_no hh).2
def PhiI (A : Option Addr) (c n : Nat) (L : List Int) (si so p q : Int) (ok : Bool) : Nat → Value → World → Prop
  | 27, v, _ | 30, v, _ => v = .slice A n c
  | 28, v, _ | 31, v, _ => v = .agg #[.int .i64 si, .int .i64 so]
  | 29, v, w | 32, v, w => ∃ A' c', v = .slice A' L.length c' ∧ IntsAt w A' L
  | 35, v, _ | 36, v, _ => v = .agg #[.int .i64 p, .int .i64 q]
  | 40, v, _ | 41, v, _ => v = .bool ok
  | 33, v, _ | 34, v, _ | 37, v, _ | 38, v, _ | 39, v, _ | 42, v, _ | 43, v, _ | 6, v, _ => v = .bool true
  | _, _, _ => True
theorem PhiI.ext {A : Option Addr} {c n : Nat} {L : List Int} {si so p q : Int} {ok : Bool} {w w' : World} (hb : Below w.heap.size w w') : ∀ s u, PhiI A c n L si so p q ok s u w → PhiI A c n L si so p q ok s u w' := by
  intro s u h
  unfold PhiI at h ⊢
  split at h <;> first | exact h | (obtain ⟨A', c', e, hi⟩ := h; exact ⟨A', c', e, hi.ext hb⟩)

theorem inside_law (A : Option Addr) (c : Nat) (xs : List Int) (si so f : Int) (w : World) (h : IntsAt w A xs) (hn : xs.length ≤ c) (hc : c ≤ maxLen) (lo : -9223372036854775808 ≤ f) (hi : f ≤ 9223372036854775807) (ht : Tab w) :
    Calls Tryd.prog 6 #[.slice A xs.length c, .agg #[.int .i64 si, .int .i64 so], .int .i64 f] w fun e w' => e = .returned (.bool true) ∧ Below w.heap.size w w' := by
  have H := Lib.hid h
  clear h
  obtain ⟨B, hB⟩ : ∃ B, B = w.heap.size := ⟨_, rfl⟩
  have HS := Lib.hid hB
  have HT := Lib.hid ht
  rw [← hB]
  clear ht
  go_enter Tryd.func6, Tryd.ntmps6
  go_wp2_with fail
  rw [← hB]
  generalize hw1 : w.alloc _ = w1
  have hcells : CellsAt w1 B 0 [.int .i64 si, .int .i64 so] := by subst hw1; simp [CellsAt, go_sem, hB]
  have hb1 : Below B w w1 := by subst hw1; rw [hB]; exact (Below.refl _ _).alloc (Nat.le_refl _) _
  have hs : B < w1.heap.size := by subst hw1; simp [hB]
  have CB := Lib.hid hcells
  have HB := Lib.hid hb1
  clear hw1 hb1 hB hcells
  refine (awake_any _ (HT.out.on (by rw [← HS.out]; exact HB.out))).mono ?_
  rintro e w2 ⟨rfl, hb2⟩
  have CB := Lib.hid ((CB.out).below hb2 (by omega))
  have HB := Lib.hid (HB.out.trans (hb2.mono (by omega)))
  have hs := Nat.lt_of_lt_of_le hs hb2.size
  have H := Lib.hid ((H.out.below HB.out (by rw [HS.out]; exact Nat.le_refl _)).take 420)
  clear hb2
  go_wp2_with fail
  refine (few_any A c xs.length _ hn hc).mono ?_
  rintro e w' ⟨rfl, rfl⟩
  have hlen : (xs.take 420).length = min xs.length 420 := by rw [List.length_take]; omega
  rw [← hlen]
  generalize xs.take 420 = ys at *
  have hl : ys.length ≤ 9223372036854775807 := by omega
  have hy : ys.length ≤ 420 := by omega
  clear hlen hn hc HT
  go_wp2_with fail
  refine (shot_any A c ys f _ H.out hl).mono ?_
  rintro e w2 ⟨rfl, hb2⟩
  have CB := Lib.hid ((CB.out).below hb2 (by omega))
  have HB := Lib.hid (HB.out.trans (hb2.mono (by omega)))
  have hs := Nat.lt_of_lt_of_le hs hb2.size
  have H := Lib.hid (IntsAt.below H.out hb2 (Nat.le_refl _))
  clear hb2
  obtain ⟨R, hR⟩ : ∃ R, R = shotR f ys := ⟨_, rfl⟩
  rw [← hR]
  have HR := Lib.hid hR
  clear hR
  obtain ⟨⟨p, q⟩, ok⟩ := R
  dsimp only
  go_wp2_with fail
  obtain ⟨D1, hD1⟩ : ∃ D1, D1 = w2.heap.size := ⟨_, rfl⟩
  rw [← hD1]
  generalize hw3 : w2.alloc _ = w3
  have hb3 : Below w2.heap.size w2 w3 := by subst hw3; exact (Below.refl _ _).alloc (Nat.le_refl _) _
  have C1 := Lib.hid (show CellsAt w3 D1 0 [.int .i64 p, .int .i64 q] by subst hw3; simp [CellsAt, go_sem, hD1])
  have hs1 : D1 < w3.heap.size := by subst hw3; simp [hD1]
  have CB := Lib.hid ((CB.out).below hb3 (by omega))
  have HB := Lib.hid (HB.out.trans (hb3.mono (by omega)))
  have H := Lib.hid (IntsAt.below H.out hb3 (Nat.le_refl _))
  have hs : B < D1 := by omega
  clear hw3 hb3 hD1
  refine (shotr_any A c ys f _ H.out hl).mono ?_
  rintro e w4 ⟨rfl, hb4⟩
  rw [← HR.out]
  dsimp only
  have CB := Lib.hid ((CB.out).below hb4 (by omega))
  have C1 := Lib.hid ((C1.out).below hb4 (by omega))
  have HB := Lib.hid (HB.out.trans (hb4.mono (by omega)))
  have H := Lib.hid (IntsAt.below H.out hb4 (Nat.le_refl _))
  have hs1 := Nat.lt_of_lt_of_le hs1 hb4.size
  clear hb4
  go_wp2_with fail
  obtain ⟨D2, hD2⟩ : ∃ D2, D2 = w4.heap.size := ⟨_, rfl⟩
  rw [← hD2]
  generalize hw5 : w4.alloc _ = w5
  have hb5 : Below w4.heap.size w4 w5 := by subst hw5; exact (Below.refl _ _).alloc (Nat.le_refl _) _
  have C2 := Lib.hid (show CellsAt w5 D2 0 [.int .i64 p, .int .i64 q] by subst hw5; simp [CellsAt, go_sem, hD2])
  have hs2 : D2 < w5.heap.size := by subst hw5; simp [hD2]
  have CB := Lib.hid ((CB.out).below hb5 (by omega))
  have C1 := Lib.hid ((C1.out).below hb5 (by omega))
  have HB := Lib.hid (HB.out.trans (hb5.mono (by omega)))
  have H := Lib.hid (IntsAt.below H.out hb5 (Nat.le_refl _))
  clear hw5 hb5
  obtain ⟨L, hL⟩ : ∃ L, L = insR si so ys := ⟨_, rfl⟩
  have hll : L.length ≤ 9223372036854775807 := by
    have := List.length_filter_le (fun c => decide (si < c) && decide (c < so)) ys
    rw [hL]; unfold insR
    split
    · unfold insideV; omega
    · simp
  have HL := Lib.hid hL.symm
  clear hL
  go_wp2_with fail
  refine wp_region_spec (by kernel_rfl) (fun w' => Below w5.heap.size w5 w') (PhiI A c ys.length L si so p q ok) 44 rfl (by kernel_rfl) (Below.refl _ _).drew ?hops ?hend
  case hops =>
    refine ⟨?o0, ?o1, ?o2, ?o3, ?o4, ?o5, ?o6, ?o7, ?o8, ?o9, ?o10, ?o11, ?o12, ?o13, ?o14, ?o15, ?o16, ?o17, trivial⟩
    case o0 =>
      intro ev w2 hI hdep hfree
      have b0 : ev 0 = .slice A ys.length c := hfree 0 (by kernel_rfl)
      clear hdep hfree
      try dsimp only
      simp [OpRuns, execOp, evalOf, b0, go_sem]
      first | exact ⟨hI, rfl⟩ | exact hI
    case o1 =>
      intro ev w2 hI hdep hfree
      have b0 : ev 4 = .pointer (some ⟨B, 0, none⟩) := hfree 4 (by kernel_rfl)
      clear hdep hfree
      try dsimp only
      have hc2 := (CB.out).below hI (by omega)
      simp only [CellsAt, Nat.zero_add, Nat.reduceAdd, and_true] at hc2
      obtain ⟨q0, q1⟩ := hc2
      simp [OpRuns, execOp, evalOf, b0, q0, q1, go_sem]
      first | exact ⟨hI, rfl⟩ | exact hI
    case o2 =>
      intro ev w2 hI hdep hfree
      have a0 : ev 27 = .slice A ys.length c := hdep 0 27 (by kernel_rfl) (by kernel_rfl)
      have a1 : ev 28 = .agg #[.int .i64 si, .int .i64 so] := hdep 1 28 (by kernel_rfl) (by kernel_rfl)
      clear hdep hfree
      try dsimp only
      refine runs_call (f := 23) (args := #[.slice A ys.length c, .agg #[.int .i64 si, .int .i64 so]]) (by simp [execOp, evalOf, resolve, invoke, a0, a1, go_sem]) ((inside_any A c ys si so w2 (H.out.below hI (Nat.le_refl _)) hl).mono ?_)
      rintro e w3 ⟨A', c', he, hi, _, _, hb⟩
      rw [HL.out] at he hi
      exact ⟨_, he, hI.trans (hb.mono hI.size), PhiI.ext hb, fun d hd => by cases hd; exact ⟨A', c', rfl, hi⟩⟩
    case o3 =>
      intro ev w2 hI hdep hfree
      have b0 : ev 0 = .slice A ys.length c := hfree 0 (by kernel_rfl)
      clear hdep hfree
      try dsimp only
      simp [OpRuns, execOp, evalOf, b0, go_sem]
      first | exact ⟨hI, rfl⟩ | exact hI
    case o4 =>
      intro ev w2 hI hdep hfree
      have b0 : ev 4 = .pointer (some ⟨B, 0, none⟩) := hfree 4 (by kernel_rfl)
      clear hdep hfree
      try dsimp only
      have hc2 := (CB.out).below hI (by omega)
      simp only [CellsAt, Nat.zero_add, Nat.reduceAdd, and_true] at hc2
      obtain ⟨q0, q1⟩ := hc2
      simp [OpRuns, execOp, evalOf, b0, q0, q1, go_sem]
      first | exact ⟨hI, rfl⟩ | exact hI
    case o5 =>
      intro ev w2 hI hdep hfree
      have a0 : ev 30 = .slice A ys.length c := hdep 3 30 (by kernel_rfl) (by kernel_rfl)
      have a1 : ev 31 = .agg #[.int .i64 si, .int .i64 so] := hdep 4 31 (by kernel_rfl) (by kernel_rfl)
      clear hdep hfree
      try dsimp only
      refine runs_call (f := 24) (args := #[.slice A ys.length c, .agg #[.int .i64 si, .int .i64 so]]) (by simp [execOp, evalOf, resolve, invoke, a0, a1, go_sem]) ((insider_any A c ys si so w2 (H.out.below hI (Nat.le_refl _)) hl).mono ?_)
      rintro e w3 ⟨A', c', he, hi, _, _, hb⟩
      rw [HL.out] at he hi
      exact ⟨_, he, hI.trans (hb.mono hI.size), PhiI.ext hb, fun d hd => by cases hd; exact ⟨A', c', rfl, hi⟩⟩
    case o6 =>
      intro ev w2 hI hdep hfree
      obtain ⟨A29, c29, a0, hi29⟩ : ∃ A' c', ev 29 = .slice A' L.length c' ∧ IntsAt w2 A' L := hdep 2 29 (by kernel_rfl) (by kernel_rfl)
      obtain ⟨A32, c32, a1, hi32⟩ : ∃ A' c', ev 32 = .slice A' L.length c' ∧ IntsAt w2 A' L := hdep 5 32 (by kernel_rfl) (by kernel_rfl)
      clear hdep hfree
      try dsimp only
      refine runs_call (f := 22) (args := #[.slice A29 L.length c29, .slice A32 L.length c32]) (by simp [execOp, evalOf, resolve, invoke, a0, a1, go_sem]) ((same_any A29 A32 c29 c32 L L w2 hi29 hi32 hll hll rfl).mono ?_)
      rintro e w3 ⟨he, n, rfl⟩
      exact ⟨_, he, below_drewN hI n, PhiI.ext (below_drewN (Below.refl _ _) n), fun d hd => by cases hd; exact rfl⟩
    case o7 =>
      intro ev w2 hI hdep hfree
      have a0 : ev 33 = .bool true := hdep 6 33 (by kernel_rfl) (by kernel_rfl)
      clear hdep hfree
      try dsimp only
      simp [OpRuns, execOp, evalOf, a0, go_sem]
      first | exact ⟨hI, rfl⟩ | exact hI
    case o8 =>
      intro ev w2 hI hdep hfree
      have b0 : ev 7 = .pointer (some ⟨D1, 0, none⟩) := hfree 7 (by kernel_rfl)
      have hg : ev 34 = .bool true := hdep 7 34 (by kernel_rfl) (by kernel_rfl)
      refine ⟨fun _ => ?_, fun hno => absurd (show yieldedEv _ ev 7 = some true by simp only [yieldedEv, dstOf, hg]; simp [hg]) hno⟩
      clear hdep hfree
      try dsimp only
      have hc2 := (C1.out).below hI (by omega)
      simp only [CellsAt, Nat.zero_add, Nat.reduceAdd, and_true] at hc2
      obtain ⟨q0, q1⟩ := hc2
      simp [OpRuns, execOp, evalOf, b0, q0, q1, go_sem]
      first | exact ⟨hI, rfl⟩ | exact hI
    case o9 =>
      intro ev w2 hI hdep hfree
      have b0 : ev 9 = .pointer (some ⟨D2, 0, none⟩) := hfree 9 (by kernel_rfl)
      have hg : ev 34 = .bool true := hdep 7 34 (by kernel_rfl) (by kernel_rfl)
      refine ⟨fun _ => ?_, fun hno => absurd (show yieldedEv _ ev 7 = some true by simp only [yieldedEv, dstOf, hg]; simp [hg]) hno⟩
      clear hdep hfree
      try dsimp only
      have hc2 := (C2.out).below hI (by omega)
      simp only [CellsAt, Nat.zero_add, Nat.reduceAdd, and_true] at hc2
      obtain ⟨q0, q1⟩ := hc2
      simp [OpRuns, execOp, evalOf, b0, q0, q1, go_sem]
      first | exact ⟨hI, rfl⟩ | exact hI
    case o10 =>
      intro ev w2 hI hdep hfree
      have a0 : ev 35 = .agg #[.int .i64 p, .int .i64 q] := hdep 8 35 (by kernel_rfl) (by kernel_rfl)
      have a1 : ev 36 = .agg #[.int .i64 p, .int .i64 q] := hdep 9 36 (by kernel_rfl) (by kernel_rfl)
      have hg : ev 34 = .bool true := hdep 7 34 (by kernel_rfl) (by kernel_rfl)
      refine ⟨fun _ => ?_, fun hno => absurd (show yieldedEv _ ev 7 = some true by simp only [yieldedEv, dstOf, hg]; simp [hg]) hno⟩
      clear hdep hfree
      try dsimp only
      simp [OpRuns, execOp, evalOf, a0, a1, go_sem]
      first | exact ⟨hI, rfl⟩ | exact hI
    case o11 =>
      intro ev w2 hI hdep hfree
      have a0 : ev 34 = .bool true := hdep 7 34 (by kernel_rfl) (by kernel_rfl)
      have a1 : ev 37 = .bool true := hdep 10 37 (by kernel_rfl) (by kernel_rfl)
      clear hdep hfree
      try dsimp only
      simp [OpRuns, execOp, evalOf, a0, a1, go_sem]
      first | exact ⟨hI, rfl⟩ | exact hI
    case o12 =>
      intro ev w2 hI hdep hfree
      have a0 : ev 38 = .bool true := hdep 11 38 (by kernel_rfl) (by kernel_rfl)
      clear hdep hfree
      try dsimp only
      simp [OpRuns, execOp, evalOf, a0, go_sem]
      first | exact ⟨hI, rfl⟩ | exact hI
    case o13 =>
      intro ev w2 hI hdep hfree
      have b0 : ev 8 = .bool ok := hfree 8 (by kernel_rfl)
      have hg : ev 39 = .bool true := hdep 12 39 (by kernel_rfl) (by kernel_rfl)
      refine ⟨fun _ => ?_, fun hno => absurd (show yieldedEv _ ev 12 = some true by simp only [yieldedEv, dstOf, hg]; simp [hg]) hno⟩
      clear hdep hfree
      try dsimp only
      simp [OpRuns, execOp, evalOf, b0, go_sem]
      first | exact ⟨hI, rfl⟩ | exact hI
    case o14 =>
      intro ev w2 hI hdep hfree
      have b0 : ev 10 = .bool ok := hfree 10 (by kernel_rfl)
      have hg : ev 39 = .bool true := hdep 12 39 (by kernel_rfl) (by kernel_rfl)
      refine ⟨fun _ => ?_, fun hno => absurd (show yieldedEv _ ev 12 = some true by simp only [yieldedEv, dstOf, hg]; simp [hg]) hno⟩
      clear hdep hfree
      try dsimp only
      simp [OpRuns, execOp, evalOf, b0, go_sem]
      first | exact ⟨hI, rfl⟩ | exact hI
    case o15 =>
      intro ev w2 hI hdep hfree
      have a0 : ev 40 = .bool ok := hdep 13 40 (by kernel_rfl) (by kernel_rfl)
      have a1 : ev 41 = .bool ok := hdep 14 41 (by kernel_rfl) (by kernel_rfl)
      have hg : ev 39 = .bool true := hdep 12 39 (by kernel_rfl) (by kernel_rfl)
      refine ⟨fun _ => ?_, fun hno => absurd (show yieldedEv _ ev 12 = some true by simp only [yieldedEv, dstOf, hg]; simp [hg]) hno⟩
      clear hdep hfree
      try dsimp only
      simp [OpRuns, execOp, evalOf, a0, a1, go_sem]
      first | exact ⟨hI, rfl⟩ | exact hI
    case o16 =>
      intro ev w2 hI hdep hfree
      have a0 : ev 39 = .bool true := hdep 12 39 (by kernel_rfl) (by kernel_rfl)
      have a1 : ev 42 = .bool true := hdep 15 42 (by kernel_rfl) (by kernel_rfl)
      clear hdep hfree
      try dsimp only
      simp [OpRuns, execOp, evalOf, a0, a1, go_sem]
      first | exact ⟨hI, rfl⟩ | exact hI
    case o17 =>
      intro ev w2 hI hdep hfree
      have a0 : ev 43 = .bool true := hdep 16 43 (by kernel_rfl) (by kernel_rfl)
      clear hdep hfree
      try dsimp only
      simp [OpRuns, execOp, evalOf, a0, go_sem]
      first | exact ⟨hI, rfl⟩ | exact hI
  case hend =>
    intro a w2 hd hsz hI hv hk
    have h2 : a.tmps.getD 6 undef = .bool true := hv 17 6 rfl
    have hd : a.defers = [] := hd
    have hbf : Below B w w2 := HB.out.trans (hI.mono (by omega))
    clear hv hk hsz hI
    go_wp2
    obtain ⟨t, ds⟩ := a
    simp only at h2 hd
    subst hd
    go_ret
    exact ⟨by rw [h2], hbf⟩
end Go.Proofs.YtnnhbnkelgmaaaaDoor
