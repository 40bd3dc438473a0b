/-
  Rows of spans and their check. The conditions of the contracts are their hypotheses.
-/
import Derived.Test.YteojlodcafogaaaGreatDoorBs
import Derived.Test.YteojlodcafogaaaGreatDoorBa
namespace Go.Proofs.YteojlodcafogaaaGreatDoor
open Go.RowKit Go.Joins
set_option linter.unusedVariables false
set_option linter.unusedSimpArgs false
def spV (x : Spn) : List Value := [.int .i64 x.i, .int .i64 x.o]
theorem spV_len (x : Spn) : (spV x).length = 2 := rfl
abbrev spA (x : Spn) : Value := .agg #[.int .i64 x.i, .int .i64 x.o]
theorem infoS : (Tryz.prog.info? 42).map (fun i => (i.zero, i.size, i.bytes)) = some (some (.agg #[.int .i64 0, .int .i64 0]), 2, 16) := by kernel_rfl
theorem info_parts {p : TypeId} {v : Value} {s b : Nat} (h : (Tryz.prog.info? p).map (fun i => (i.zero, i.size, i.bytes)) = some (some v, s, b)) :
    ∃ i0, Tryz.prog.info? p = some i0 ∧ i0.zero = some v ∧ i0.size = s ∧ i0.bytes = b := by
  cases hi : Tryz.prog.info? p with
  | none => rw [hi] at h; cases h
  | some i => rw [hi] at h; simp at h; exact ⟨i, rfl, h.1, h.2.1, h.2.2⟩
theorem below_one (w : World) (o : Obj) : Below w.heap.size w (w.alloc o) := (Below.refl _ _).alloc (Nat.le_refl _) _
/-- A list of spans as a slice of memory reads. -/
abbrev SpAt (w : World) (A : Option Addr) (L : List Spn) : Prop := RowAt w A (L.flatMap spV)
theorem SpAt.get {w : World} {g o : Nat} {L : List Spn} (h : SpAt w (some ⟨g, o, none⟩) L) {k : Nat} {x : Spn} (hk : L[k]? = some x) :
    w.cell? ⟨g, o + k * 2, none⟩ = some (.int .i64 x.i) ∧ w.cell? ⟨g, o + k * 2 + 1, none⟩ = some (.int .i64 x.o) := by
  have H : ∀ j u, j < 2 → (spV x)[j]? = some u → w.cell? ⟨g, o + k * 2 + j, none⟩ = some u := by
    intro j u hj hu
    obtain ⟨b, o', e, hc⟩ := h (k * 2 + j) u ((flat_get spV_len hk hj).trans hu)
    cases e
    rwa [← Nat.add_assoc] at hc
  exact ⟨H 0 _ (by omega) rfl, H 1 _ (by omega) rfl⟩
theorem SpAt.some {w : World} {A : Option Addr} {L : List Spn} (h : SpAt w A L) {k : Nat} {x : Spn} (hk : L[k]? = some x) : ∃ g o, A = some ⟨g, o, none⟩ := by
  obtain ⟨b, o', e, hc⟩ := h (k * 2 + 0) _ ((flat_get spV_len hk (by omega)).trans rfl)
  exact ⟨b, o', e⟩
/-- v is a slice that reads as the list. -/
def Spl (w : World) (v : Value) (L : List Spn) : Prop := ∃ A c, v = .slice A L.length c ∧ SpAt w A L
theorem Spl.nil (w : World) : Spl w (.slice none 0 0) [] := ⟨none, 0, rfl, RowAt.nil _ _⟩
theorem Spl.own {w : World} {base : Nat} {v : Value} {L : List Spn} (h : w.ownsRow base 42 2 v L.length (L.flatMap spV)) : Spl w v L := by
  obtain ⟨A, c, e, hr, _⟩ := row_of_ownK h
  exact ⟨A, c, e, hr⟩
theorem two_of {w : World} {g : Nat} {a b : Value} (h : Held w g [a, b]) : w.cell? ⟨g, 0, none⟩ = some a ∧ w.cell? ⟨g, 1, none⟩ = some b := ⟨h.cell 0, h.cell 1⟩
theorem spV_one (x : Spn) : ∀ v ∈ spV x, v.oneCell' = true := by
  intro v hv
  simp [spV] at hv
  rcases hv with rfl | rfl <;> rfl
theorem spV_flat_one (L : List Spn) : ∀ v ∈ L.flatMap spV, v.oneCell' = true := by
  intro v hv
  rw [List.mem_flatMap] at hv
  obtain ⟨x, _, hx⟩ := hv
  exact spV_one x v hx
theorem flat_snoc (L : List Spn) (x : Spn) : (L ++ [x]).flatMap spV = L.flatMap spV ++ spV x := by simp
end Go.Proofs.YteojlodcafogaaaGreatDoor
namespace Go.Proofs.YteojlodcafogaaaGreatDoor
open Go.RowKit Go.Joins
set_option linter.unusedVariables false
set_option linter.unusedSimpArgs false
/-- The end of the span ahead. -/
def pv (L : List Spn) (k : Nat) : Option Int := match k with | 0 => none | k + 1 => (L[k]?).map (·.o)
theorem chk_step {L : List Spn} {k : Nat} {x : Spn} (hk : L[k]? = some x) : chkL (pv L k) (L.drop k) =
    if x.i < 0 ∨ mT < x.o then 2 else if x.o ≤ x.i then 1 else if aft (pv L k) x.i = true then 8 else chkL (pv L (k + 1)) (L.drop (k + 1)) := by
  obtain ⟨h, e⟩ := List.getElem?_eq_some_iff.1 hk
  rw [List.drop_eq_getElem_cons h, e]
  show chkL (pv L k) (x :: L.drop (k + 1)) = _
  rw [show pv L (k + 1) = some x.o by simp [pv, hk]]
  rfl
set_option maxHeartbeats 1000000 in
theorem chk_any (A : Option Addr) (c : Nat) (L : List Spn) (w : World) (hs : SpAt w A L) (hl : L.length ≤ 1000000000) :
    Calls Tryz.prog 81 #[.slice A L.length c] w fun e w' => e = .returned (.int .i64 (chkS L)) ∧ Below w.heap.size w w' := by
  have HS := Lib.hid hs
  clear hs
  obtain ⟨D, hD⟩ : ∃ D, D = w.heap.size := ⟨_, rfl⟩
  have HD := Lib.hid hD
  rw [← hD]
  clear hD
  by_cases h4 : 400 < L.length
  · rw [show chkS L = 9 by unfold chkS; rw [if_pos h4]]
    have h5 : (400 : Int) < (L.length : Int) := by omega
    go_enter Tryz.func81, Tryz.ntmps81
    go_wp2_with fail
    go_ret
    exact ⟨rfl, Below.refl _ _⟩
  · rw [show chkS L = chkL none L by unfold chkS; rw [if_neg h4]]
    have h5 : ¬ ((400 : Int) < (L.length : Int)) := by omega
    obtain ⟨R, hR⟩ : ∃ R, R = chkL none L := ⟨_, rfl⟩
    have HR := Lib.hid (show R = chkL (pv L 0) (L.drop 0) from hR)
    rw [← hR]
    clear hR
    go_enter Tryz.func81, Tryz.ntmps81
    go_wp2_with fail
    go_loopw [10] (fun i wr => ∃ k : Nat, k ≤ L.length ∧ i = .int .i64 k ∧ Hid (R = chkL (pv L k) (L.drop k)) ∧ Hid (Below D w wr)) (fun i _ => L.length - (intOf i).toNat)
    case atStart => exact ⟨0, by omega, rfl, HR, Lib.hid (Below.refl _ _)⟩
    case round =>
      obtain ⟨k, hk, rfl, HK, G⟩ := hrel
      clear HR
      have hDw : D ≤ wr.heap.size := by have := G.out.size; have := HD.out; omega
      by_cases hlt : k < L.length
      · have hlt2 : (k : Int) < (L.length : Int) := by omega
        obtain ⟨x, hx⟩ : ∃ x, L[k]? = some x := ⟨_, List.getElem?_eq_getElem hlt⟩
        have HX := Lib.hid hx
        have HRw := HS.out.below (HD.out ▸ G.out) (Nat.le_refl _)
        obtain ⟨g, o, rfl⟩ := SpAt.some HRw hx
        obtain ⟨q0, q1⟩ := SpAt.get HRw hx
        have hst := HK.out.trans (chk_step hx)
        by_cases h1 : x.i < 0
        · rw [if_pos (.inl h1)] at hst
          subst hst
          clear HRw hx HK
          go_wp2_with fail
          go_ret
          exact ⟨rfl, (G.out.alloc hDw _)⟩
        · by_cases h2 : 10378368000 < x.o
          · rw [if_pos (.inr h2)] at hst
            subst hst
            clear HRw hx HK
            go_wp2_with fail
            go_ret
            exact ⟨rfl, (G.out.alloc hDw _)⟩
          · rw [if_neg (by show ¬ (x.i < 0 ∨ 10378368000 < x.o); omega)] at hst
            by_cases h3 : x.o ≤ x.i
            · rw [if_pos h3] at hst
              subst hst
              clear HRw hx HK
              go_wp2_with fail
              go_ret
              exact ⟨rfl, (G.out.alloc hDw _)⟩
            · rw [if_neg h3] at hst
              by_cases hk0 : k = 0
              · subst hk0
                rw [if_neg (by simp [pv, aft])] at hst
                have HST := Lib.hid hst
                simp only [Nat.zero_mul, Nat.add_zero] at q0 q1
                clear HRw hx HK hst
                go_wp2_with fail
                generalize hw2 : World.alloc wr _ = w2
                have F2 : Held w2 wr.heap.size [.int .i64 x.i, .int .i64 x.o] := by subst hw2; exact Held.new rfl
                obtain ⟨z0, z1⟩ := two_of F2
                have G2 := Lib.hid (show Below D w w2 by subst hw2; exact G.out.alloc hDw _)
                clear hw2 q0 q1 F2
                go_quiet (fail)
                all_goals
                  go_wp2_with fail
                  go_roundw
                  case rel => exact ⟨1, by omega, by go_num, HST, Lib.hid (below_drewN G2.out _)⟩
                  case measure => simp [intOf]; omega
              · obtain ⟨m, hm⟩ : ∃ m, k = m + 1 := ⟨k - 1, by omega⟩
                obtain ⟨y, hy⟩ : ∃ y, L[m]? = some y := ⟨_, List.getElem?_eq_getElem (by omega)⟩
                have hpv : pv L k = some y.o := by rw [hm]; simp [pv, hy]
                rw [hpv] at hst
                have m2 : 0 < k := by omega
                have m5 : decide (0 < k) = true := by simpa using m2
                have m3 : IntKind.i64.wrap ((k : Int) - 1) = (m : Int) := by rw [IntKind.wrap_i64]; omega
                have m4 : (m : Int) < (L.length : Int) := by omega
                have HY := Lib.hid hy
                have HRW := Lib.hid HRw
                clear hy hx HK hm hpv HRw
                by_cases h6 : x.i ≤ y.o
                · rw [if_pos (by simpa [aft] using h6)] at hst
                  subst hst
                  go_wp2_with fail
                  generalize hw2 : World.alloc wr _ = w2
                  have F2 : Held w2 wr.heap.size [.int .i64 x.i, .int .i64 x.o] := by subst hw2; exact Held.new rfl
                  obtain ⟨z0, z1⟩ := two_of F2
                  obtain ⟨r0, r1⟩ := SpAt.get (HRW.out.ext (hw2 ▸ below_one wr _)) HY.out
                  have G2 := Lib.hid (show Below D w w2 by subst hw2; exact G.out.alloc hDw _)
                  clear hw2 q0 q1 F2
                  go_quiet (fail)
                  all_goals
                    go_wp2_with fail
                    go_ret
                    exact ⟨rfl, below_drewN G2.out _⟩
                · rw [if_neg (by simpa [aft] using h6)] at hst
                  have HST := Lib.hid hst
                  clear hst
                  go_wp2_with fail
                  generalize hw2 : World.alloc wr _ = w2
                  have F2 : Held w2 wr.heap.size [.int .i64 x.i, .int .i64 x.o] := by subst hw2; exact Held.new rfl
                  obtain ⟨z0, z1⟩ := two_of F2
                  obtain ⟨r0, r1⟩ := SpAt.get (HRW.out.ext (hw2 ▸ below_one wr _)) HY.out
                  have G2 := Lib.hid (show Below D w w2 by subst hw2; exact G.out.alloc hDw _)
                  clear hw2 q0 q1 F2
                  go_quiet (fail)
                  all_goals
                    go_wp2_with fail
                    go_roundw
                    case rel => exact ⟨k + 1, by omega, by go_num, HST, Lib.hid (below_drewN G2.out _)⟩
                    case measure => simp [intOf]; omega
      · obtain rfl : k = L.length := by omega
        have hst : R = 0 := by rw [HK.out, List.drop_length]; rfl
        subst hst
        clear hlt HK
        go_wp2_with fail
        go_ret
        exact ⟨rfl, G.out⟩
set_option maxHeartbeats 1000000 in
theorem chkr_any (A : Option Addr) (c : Nat) (L : List Spn) (w : World) (hs : SpAt w A L) (hl : L.length ≤ 1000000000) :
    Calls Tryz.prog 54 #[.slice A L.length c] w fun e w' => e = .returned (.int .i64 (chkS L)) ∧ Below w.heap.size w w' := by
  have HS := Lib.hid hs
  clear hs
  obtain ⟨D, hD⟩ : ∃ D, D = w.heap.size := ⟨_, rfl⟩
  have HD := Lib.hid hD
  rw [← hD]
  clear hD
  by_cases h4 : 400 < L.length
  · rw [show chkS L = 9 by unfold chkS; rw [if_pos h4]]
    have h5 : (400 : Int) < (L.length : Int) := by omega
    go_enter Tryz.func54, Tryz.ntmps54
    go_wp2_with fail
    go_ret
    exact ⟨rfl, Below.refl _ _⟩
  · rw [show chkS L = chkL none L by unfold chkS; rw [if_neg h4]]
    have h5 : ¬ ((400 : Int) < (L.length : Int)) := by omega
    obtain ⟨R, hR⟩ : ∃ R, R = chkL none L := ⟨_, rfl⟩
    have HR := Lib.hid (show R = chkL (pv L 0) (L.drop 0) from hR)
    rw [← hR]
    clear hR
    go_enter Tryz.func54, Tryz.ntmps54
    go_wp2_with fail
    go_loopw [10] (fun i wr => ∃ k : Nat, k ≤ L.length ∧ i = .int .i64 k ∧ Hid (R = chkL (pv L k) (L.drop k)) ∧ Hid (Below D w wr)) (fun i _ => L.length - (intOf i).toNat)
    case atStart => exact ⟨0, by omega, rfl, HR, Lib.hid (Below.refl _ _)⟩
    case round =>
      obtain ⟨k, hk, rfl, HK, G⟩ := hrel
      clear HR
      have hDw : D ≤ wr.heap.size := by have := G.out.size; have := HD.out; omega
      by_cases hlt : k < L.length
      · have hlt2 : (k : Int) < (L.length : Int) := by omega
        obtain ⟨x, hx⟩ : ∃ x, L[k]? = some x := ⟨_, List.getElem?_eq_getElem hlt⟩
        have HX := Lib.hid hx
        have HRw := HS.out.below (HD.out ▸ G.out) (Nat.le_refl _)
        obtain ⟨g, o, rfl⟩ := SpAt.some HRw hx
        obtain ⟨q0, q1⟩ := SpAt.get HRw hx
        have hst := HK.out.trans (chk_step hx)
        by_cases h1 : x.i < 0
        · rw [if_pos (.inl h1)] at hst
          subst hst
          clear HRw hx HK
          go_wp2_with fail
          go_ret
          exact ⟨rfl, (G.out.alloc hDw _)⟩
        · by_cases h2 : 10378368000 < x.o
          · rw [if_pos (.inr h2)] at hst
            subst hst
            clear HRw hx HK
            go_wp2_with fail
            go_ret
            exact ⟨rfl, (G.out.alloc hDw _)⟩
          · rw [if_neg (by show ¬ (x.i < 0 ∨ 10378368000 < x.o); omega)] at hst
            by_cases h3 : x.o ≤ x.i
            · rw [if_pos h3] at hst
              subst hst
              clear HRw hx HK
              go_wp2_with fail
              go_ret
              exact ⟨rfl, (G.out.alloc hDw _)⟩
            · rw [if_neg h3] at hst
              by_cases hk0 : k = 0
              · subst hk0
                rw [if_neg (by simp [pv, aft])] at hst
                have HST := Lib.hid hst
                simp only [Nat.zero_mul, Nat.add_zero] at q0 q1
                clear HRw hx HK hst
                go_wp2_with fail
                generalize hw2 : World.alloc wr _ = w2
                have F2 : Held w2 wr.heap.size [.int .i64 x.i, .int .i64 x.o] := by subst hw2; exact Held.new rfl
                obtain ⟨z0, z1⟩ := two_of F2
                have G2 := Lib.hid (show Below D w w2 by subst hw2; exact G.out.alloc hDw _)
                clear hw2 q0 q1 F2
                go_quiet (fail)
                all_goals
                  go_wp2_with fail
                  go_roundw
                  case rel => exact ⟨1, by omega, by go_num, HST, Lib.hid (below_drewN G2.out _)⟩
                  case measure => simp [intOf]; omega
              · obtain ⟨m, hm⟩ : ∃ m, k = m + 1 := ⟨k - 1, by omega⟩
                obtain ⟨y, hy⟩ : ∃ y, L[m]? = some y := ⟨_, List.getElem?_eq_getElem (by omega)⟩
                have hpv : pv L k = some y.o := by rw [hm]; simp [pv, hy]
                rw [hpv] at hst
                have m2 : 0 < k := by omega
                have m5 : decide (0 < k) = true := by simpa using m2
                have m3 : IntKind.i64.wrap ((k : Int) - 1) = (m : Int) := by rw [IntKind.wrap_i64]; omega
                have m4 : (m : Int) < (L.length : Int) := by omega
                have HY := Lib.hid hy
                have HRW := Lib.hid HRw
                clear hy hx HK hm hpv HRw
                by_cases h6 : x.i ≤ y.o
                · rw [if_pos (by simpa [aft] using h6)] at hst
                  subst hst
                  go_wp2_with fail
                  generalize hw2 : World.alloc wr _ = w2
                  have F2 : Held w2 wr.heap.size [.int .i64 x.i, .int .i64 x.o] := by subst hw2; exact Held.new rfl
                  obtain ⟨z0, z1⟩ := two_of F2
                  obtain ⟨r0, r1⟩ := SpAt.get (HRW.out.ext (hw2 ▸ below_one wr _)) HY.out
                  have G2 := Lib.hid (show Below D w w2 by subst hw2; exact G.out.alloc hDw _)
                  clear hw2 q0 q1 F2
                  go_quiet (fail)
                  all_goals
                    go_wp2_with fail
                    go_ret
                    exact ⟨rfl, below_drewN G2.out _⟩
                · rw [if_neg (by simpa [aft] using h6)] at hst
                  have HST := Lib.hid hst
                  clear hst
                  go_wp2_with fail
                  generalize hw2 : World.alloc wr _ = w2
                  have F2 : Held w2 wr.heap.size [.int .i64 x.i, .int .i64 x.o] := by subst hw2; exact Held.new rfl
                  obtain ⟨z0, z1⟩ := two_of F2
                  obtain ⟨r0, r1⟩ := SpAt.get (HRW.out.ext (hw2 ▸ below_one wr _)) HY.out
                  have G2 := Lib.hid (show Below D w w2 by subst hw2; exact G.out.alloc hDw _)
                  clear hw2 q0 q1 F2
                  go_quiet (fail)
                  all_goals
                    go_wp2_with fail
                    go_roundw
                    case rel => exact ⟨k + 1, by omega, by go_num, HST, Lib.hid (below_drewN G2.out _)⟩
                    case measure => simp [intOf]; omega
      · obtain rfl : k = L.length := by omega
        have hst : R = 0 := by rw [HK.out, List.drop_length]; rfl
        subst hst
        clear hlt HK
        go_wp2_with fail
        go_ret
        exact ⟨rfl, G.out⟩
end Go.Proofs.YteojlodcafogaaaGreatDoor
namespace Go.Proofs.YteojlodcafogaaaGreatDoor
open Go.RowKit Go.Joins
set_option linter.unusedVariables false
set_option linter.unusedSimpArgs false
theorem own_base {w : World} {base : Nat} {e : TypeId} {size : Nat} {v : Value} {n : Nat} {xs : List Value} (h : w.ownsRow base e size v n xs) : ∀ k, v.ownBlock = some k → base ≤ k := by
  intro k hk
  exact (h.lt k hk).1
/-- A call that gives a new list. -/
def NewP (L : List Spn) (W : World) (e : Ending) (w' : World) : Prop := (∃ v, e = .returned v ∧ w'.ownsRow W.heap.size 42 2 v L.length (L.flatMap spV)) ∧ Below W.heap.size W w'
theorem filt_len (s : Spn) (B : List Spn) : ((B.map (cutS s)).filter fun t => decide (t.i < t.o)).length ≤ B.length := by
  have := List.length_filter_le (fun t : Spn => decide (t.i < t.o)) (B.map (cutS s))
  simpa using this
theorem comS_len : ∀ (A B : List Spn), (comS A B).length ≤ A.length * B.length
  | [], B => by simp [comS]
  | s :: A, B => by
    have h1 := comS_len A B
    have h2 := filt_len s B
    show (((B.map (cutS s)).filter fun t => decide (t.i < t.o)) ++ comS A B).length ≤ _
    rw [List.length_append, List.length_cons, Nat.succ_mul]
    omega
theorem comS_step {A B : List Spn} {k : Nat} {x : Spn} (hk : A[k]? = some x) : comS (A.take (k + 1)) B = comS (A.take k) B ++ ((B.map (cutS x)).filter fun t => decide (t.i < t.o)) := by
  unfold comS
  rw [List.take_add_one, hk, List.flatMap_append]
  simp
theorem filt_step {x y : Spn} {B : List Spn} {k : Nat} (hk : B[k]? = some y) : ((B.take (k + 1)).map (cutS x)).filter (fun t => decide (t.i < t.o)) = ((B.take k).map (cutS x)).filter (fun t => decide (t.i < t.o)) ++ (if max x.i y.i < min x.o y.o then [cutS x y] else []) := by
  rw [List.take_add_one, hk, List.map_append, List.filter_append]
  congr 1
  show List.filter _ [cutS x y] = _
  rw [List.filter_cons]
  show (if decide (max x.i y.i < min x.o y.o) = true then _ else _) = _
  by_cases h : max x.i y.i < min x.o y.o <;> simp [h]
end Go.Proofs.YteojlodcafogaaaGreatDoor
