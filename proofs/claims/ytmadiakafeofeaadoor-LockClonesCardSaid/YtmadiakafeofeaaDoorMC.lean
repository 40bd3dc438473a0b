/-
  The contracts of Clone: of the two rows, and of a table. Their conditions are their hypotheses.
-/
import Derived.Test.YtmadiakafeofeaaDoorMN
import Derived.Test.YtmadiakafeofeaaDoorK8
import Derived.Lib.LazyBuf
import Derived.Deep.RegionLaw
import Derived.BigRegion
namespace Go.Proofs.YtmadiakafeofeaaDoor
open Go.RowKit Go.Joins
set_option linter.unusedVariables false
set_option linter.unusedSimpArgs false
set_option maxRecDepth 100000 in
theorem cloneL_any (B0 D : Nat) (v : Value) (L : List Ls) (w : World) (hown : w.ownsRow B0 39 4 v L.length (L.flatMap lsV)) (hl : L.length ≤ 1000) (hD : D ≤ w.heap.size) :
    Calls Tryd.prog 37 #[v] w fun e w' => ∃ v', e = .returned v' ∧ w'.ownsRow D 39 4 v' L.length (L.flatMap lsV) ∧ Below w.heap.size w w' := by
  obtain ⟨i0, hi, hz0, hz1, hz2⟩ := info_parts infoL
  have HI0 := Lib.hid (And.intro hi (And.intro hz0 (And.intro hz1 hz2)))
  have HO := Lib.hid hown
  have q22 : ∀ (w : World) (a : Option Addr) (n c n' c' : Nat), (binOp .eql 43 (.slice a n c) (.slice none n' c')).run Tryd.prog w = .ok (.bool a.isNone) w := fun w a n c n' c' => Lib.run_eql_slice_nil w _ _ a n c n' c' Tryd.underlying43
  clear hi hz0 hz1 hz2
  rcases hown.2 with ⟨rfl, h0⟩ | ⟨g, cap, cur, rfl, hgB, hg, hnc, hcm, _, _⟩
  · have hL : L = [] := List.eq_nil_of_length_eq_zero h0
    subst hL
    clear hown h0 hl
    go_enter Tryd.func37, Tryd.ntmps37
    go_wp2_with fail
    go_ret
    exact ⟨_, rfl, World.ownsRow_nil _ _ _ _, Below.refl _ _⟩
  · have HN := Lib.hid (show ∀ j u, (L.flatMap lsV)[j]? = some u → (w.alloc (.cells #[] 39)).cell? ((⟨g, 0, none⟩ : Addr).add j) = some u from fun j u hj => by
      have := hown.cells (g := g) rfl j u hj
      have hlt := World.block_lt_of_cell? w _ this
      rw [← this]
      exact (below_one w (.cells #[] 39)).cell hlt)
    have HL := Lib.hid (show (L.flatMap lsV).length = L.length * 4 by rw [flat_len lsV_len])
    have HONE := Lib.hid (show ∀ u ∈ L.flatMap lsV, u.oneCell' = true by exact flat_one L)
    clear hown hcm hnc hg hgB
    go_enter Tryd.func37, Tryd.ntmps37
    go_wp2_with (at_builtin; go_loud (refine wpList_append_own _ rfl _ _ 43 rfl w.heap.size 39 i0 (.agg #[.string ⟨#[]⟩, .int .i64 0, .int .i64 0, .int .i64 0]) 4 40 Tryd.underlying43 HI0.out.1 HI0.out.2.1 HI0.out.2.2.1 HI0.out.2.2.2 rfl (by decide) (.slice (some ⟨w.heap.size, 0, none⟩) 0 0) 0 [] rfl (World.ownsRow_made w #[] 0 (Nat.le_refl _) (by simp) rfl) ⟨g, 0, none⟩ L.length cap (L.flatMap lsV) rfl HL.out HN.out HONE.out (by simp only [maxLen]; omega) (by omega) (by simp) ?_))
    intro o' w5 ho hgr _
    have HO5 := Lib.hid (show w5.ownsRow D 39 4 o' L.length (L.flatMap lsV) by
      have := ownsRow_mono ho hD
      simpa using this)
    have G5 := Lib.hid (show Below w.heap.size w w5 from (below_one w (.cells #[] 39)).grown hgr (by simp) (fun k hk => by cases hk; exact Nat.le_refl _))
    clear ho hgr
    go_wp2_with fail
    go_ret
    exact ⟨_, rfl, HO5.out, G5.out⟩
set_option maxRecDepth 100000 in
theorem cloneI_any (B0 D : Nat) (v : Value) (L : List Int) (w : World) (hown : w.ownsRow B0 2 1 v L.length (L.map (Value.int .i64))) (hl : L.length ≤ 1000) (hD : D ≤ w.heap.size) :
    Calls Tryd.prog 36 #[v] w fun e w' => ∃ v', e = .returned v' ∧ w'.ownsRow D 2 1 v' L.length (L.map (Value.int .i64)) ∧ Below w.heap.size w w' := by
  obtain ⟨i0, hi, hz0, hz1, hz2⟩ := info_parts infoI
  have HI0 := Lib.hid (And.intro hi (And.intro hz0 (And.intro hz1 hz2)))
  have HO := Lib.hid hown
  have q22 : ∀ (w : World) (a : Option Addr) (n c n' c' : Nat), (binOp .eql 49 (.slice a n c) (.slice none n' c')).run Tryd.prog w = .ok (.bool a.isNone) w := fun w a n c n' c' => Lib.run_eql_slice_nil w _ _ a n c n' c' Tryd.underlying49
  clear hi hz0 hz1 hz2
  rcases hown.2 with ⟨rfl, h0⟩ | ⟨g, cap, cur, rfl, hgB, hg, hnc, hcm, _, _⟩
  · have hL : L = [] := List.eq_nil_of_length_eq_zero h0
    subst hL
    clear hown h0 hl
    go_enter Tryd.func36, Tryd.ntmps36
    go_wp2_with fail
    go_ret
    exact ⟨_, rfl, World.ownsRow_nil _ _ _ _, Below.refl _ _⟩
  · have HN := Lib.hid (show ∀ j u, (L.map (Value.int .i64))[j]? = some u → (w.alloc (.cells #[] 2)).cell? ((⟨g, 0, none⟩ : Addr).add j) = some u from fun j u hj => by
      have := hown.cells (g := g) rfl j u hj
      have hlt := World.block_lt_of_cell? w _ this
      rw [← this]
      exact (below_one w (.cells #[] 2)).cell hlt)
    have HL := Lib.hid (show (L.map (Value.int .i64)).length = L.length * 1 by simp)
    have HONE := Lib.hid (show ∀ u ∈ L.map (Value.int .i64), u.oneCell' = true by intro u hu; obtain ⟨n, _, rfl⟩ := List.mem_map.1 hu; rfl)
    clear hown hcm hnc hg hgB
    go_enter Tryd.func36, Tryd.ntmps36
    go_wp2_with (at_builtin; go_loud (refine wpList_append_own _ rfl _ _ 49 rfl w.heap.size 2 i0 (.int .i64 0) 1 8 Tryd.underlying49 HI0.out.1 HI0.out.2.1 HI0.out.2.2.1 HI0.out.2.2.2 rfl (by decide) (.slice (some ⟨w.heap.size, 0, none⟩) 0 0) 0 [] rfl (World.ownsRow_made w #[] 0 (Nat.le_refl _) (by simp) rfl) ⟨g, 0, none⟩ L.length cap (L.map (Value.int .i64)) rfl HL.out HN.out HONE.out (by simp only [maxLen]; omega) (by omega) (by simp) ?_))
    intro o' w5 ho hgr _
    have HO5 := Lib.hid (show w5.ownsRow D 2 1 o' L.length (L.map (Value.int .i64)) by
      have := ownsRow_mono ho hD
      simpa using this)
    have G5 := Lib.hid (show Below w.heap.size w w5 from (below_one w (.cells #[] 2)).grown hgr (by simp) (fun k hk => by cases hk; exact Nat.le_refl _))
    clear ho hgr
    go_wp2_with fail
    go_ret
    exact ⟨_, rfl, HO5.out, G5.out⟩
theorem rep_two {D : Nat} {T : Tb} {w : World} {s l s' l' : Value} (hp : w.heap[D]? = some (.cells #[.int .i64 T.now, .int .i64 T.ls, .int .i64 T.lf, s, l] 53 (0, 0)))
    (hI : w.ownsRow D 2 1 s' T.ses.length (T.ses.map (Value.int .i64))) (hL : w.ownsRow D 39 4 l' T.lea.length (T.lea.flatMap lsV)) :
    Rep D D s' l' T ((w.setCell ⟨D, 3, none⟩ s').setCell ⟨D, 4, none⟩ l') := by
  have n1 : s'.ownBlock ≠ some D := by
    intro hg
    obtain ⟨c1, k1⟩ := own_block hI hg
    rw [hp] at k1
    cases k1
  have n2 : l'.ownBlock ≠ some D := by
    intro hg
    obtain ⟨c1, k1⟩ := own_block hL hg
    rw [hp] at k1
    cases k1
  exact ⟨Nat.le_refl _, heap_put (heap_put hp 3 s') 4 l', own_put (own_put hI n1 _ _) n1 _ _, own_put (own_put hL n2 _ _) n2 _ _⟩
set_option maxRecDepth 100000 in
set_option maxHeartbeats 2000000 in
theorem cloneT_any (B p : Nat) (sv lv : Value) (T : Tb) (w : World) (h : Rep B p sv lv T w) (hl : T.lea.length ≤ 1000) (hsl : T.ses.length ≤ 1000) :
    Calls Tryd.prog 18 #[.pointer (some ⟨p, 0, none⟩)] w fun e w' => e = .returned (.pointer (some ⟨w.heap.size, 0, none⟩)) ∧ (∃ sv' lv', Rep w.heap.size w.heap.size sv' lv' T w') ∧ Below w.heap.size w w' := by
  have HR := Lib.hid h
  have q := h.block.cell
  have hpw := h.lt
  obtain ⟨SA, sc, hsv, _⟩ := row_of_ownK h.2.2.1
  subst hsv
  obtain ⟨LA, lc, hlv, _⟩ := row_of_ownK h.2.2.2
  subst hlv
  obtain ⟨D, hD⟩ : ∃ D, D = w.heap.size := ⟨_, rfl⟩
  have HD := Lib.hid hD
  have hpD : p < D := by omega
  have HS := Lib.hid (show ∀ W, Below D w W → W.ownsRow B 2 1 (.slice SA T.ses.length sc) T.ses.length (T.ses.map (Value.int .i64)) from fun W hW => own_ext h.2.2.1 (hD ▸ hW))
  have HL := Lib.hid (show ∀ W, Below D w W → W.ownsRow B 39 4 (.slice LA T.lea.length lc) T.lea.length (T.lea.flatMap lsV) from fun W hW => own_ext h.2.2.2 (hD ▸ hW))
  have HQ := Lib.hid (show ∀ W, Below D w W → ∀ i, W.cell? ⟨p, i, none⟩ = ([.int .i64 T.now, .int .i64 T.ls, .int .i64 T.lf, .slice SA T.ses.length sc, .slice LA T.lea.length lc] : List Value)[i]? from fun W hW i => (hW.cell (p := ⟨p, i, none⟩) hpD).trans (q i))
  rw [← hD]
  clear h
  go_enter Tryd.func18, Tryd.ntmps18
  go_wp2_with fail
  rw [← hD]
  generalize hw1 : World.alloc _ _ = w1
  have h1 : Below D w w1 := by subst hw1; rw [hD]; exact below_one _ _
  have h1d : Below D w w1.drew := h1.drew
  have hp21 : w1.drew.heap[D]? = some (.cells #[.int .i64 T.now, .int .i64 T.ls, .int .i64 T.lf, .slice SA T.ses.length sc, .slice LA T.lea.length lc] 53 (0, 0)) := by subst hw1; exact heap_at w _ hD
  have hlt1 : D < w1.drew.heap.size := (Array.getElem?_eq_some_iff.1 hp21).1
  have hD1 : D ≤ w1.drew.heap.size := Nat.le_of_lt hlt1
  have q3 : w1.cell? ⟨p, 3, none⟩ = some (.slice SA T.ses.length sc) := HQ.out w1 h1 3
  have q4 : w1.cell? ⟨p, 4, none⟩ = some (.slice LA T.lea.length lc) := HQ.out w1 h1 4
  have hpw1 : p < w1.heap.size := by have := h1.size; omega
  clear hw1 hD q
  go_region_law (first | (go_simp; go_at_call 36; refine (cloneI_any B D _ _ _ (HS.out _ (by first | exact h1d | exact hbL2)) (by omega) (by first | exact hD1 | exact hDL)).mono ?_; rintro e wI ⟨vI, rfl, hI, hbI⟩; have hbI2 : Below D w wI := (by first | exact h1d.trans (hbI.mono hD1) | exact hbL2.trans (hbI.mono hDL)); have hDI : D ≤ wI.heap.size := (by have := hbI2.size; have := HD.out; omega); have hp2I : wI.heap[D]? = some (.cells #[.int .i64 T.now, .int .i64 T.ls, .int .i64 T.lf, .slice SA T.ses.length sc, .slice LA T.lea.length lc] 53 (0, 0)) := (by first | exact (hbI.block D hlt1).trans hp21 | exact (hbI.block D (Array.getElem?_eq_some_iff.1 hp2L).1).trans hp2L); (try (have hL := own_ext hL hbI)); obtain ⟨AI, cI, rfl, _⟩ := row_of_ownK hI; have qI3 : wI.cell? ⟨p, 3, none⟩ = some (.slice SA T.ses.length sc) := HQ.out wI hbI2 3; have qI4 : wI.cell? ⟨p, 4, none⟩ = some (.slice LA T.lea.length lc) := HQ.out wI hbI2 4; have xI3 : wI.cell? ⟨D, 3, none⟩ = some (.slice SA T.ses.length sc) := (by rw [cell_of_block hp2I 3]; rfl); have xI4 : wI.cell? ⟨D, 4, none⟩ = some (.slice LA T.lea.length lc) := (by rw [cell_of_block hp2I 4]; rfl); have yI3 : wI.frozen? ⟨D, 3, none⟩ = false := unfrozen_of_block hp2I 3; have yI4 : wI.frozen? ⟨D, 4, none⟩ = false := unfrozen_of_block hp2I 4) | (go_simp; go_at_call 37; refine (cloneL_any B D _ _ _ (HL.out _ (by first | exact h1d | exact hbI2)) (by omega) (by first | exact hD1 | exact hDI)).mono ?_; rintro e wL ⟨vL, rfl, hL, hbL⟩; have hbL2 : Below D w wL := (by first | exact h1d.trans (hbL.mono hD1) | exact hbI2.trans (hbL.mono hDI)); have hDL : D ≤ wL.heap.size := (by have := hbL2.size; have := HD.out; omega); have hp2L : wL.heap[D]? = some (.cells #[.int .i64 T.now, .int .i64 T.ls, .int .i64 T.lf, .slice SA T.ses.length sc, .slice LA T.lea.length lc] 53 (0, 0)) := (by first | exact (hbL.block D hlt1).trans hp21 | exact (hbL.block D (Array.getElem?_eq_some_iff.1 hp2I).1).trans hp2I); (try (have hI := own_ext hI hbL)); obtain ⟨AL, cL, rfl, _⟩ := row_of_ownK hL; have qL3 : wL.cell? ⟨p, 3, none⟩ = some (.slice SA T.ses.length sc) := HQ.out wL hbL2 3; have qL4 : wL.cell? ⟨p, 4, none⟩ = some (.slice LA T.lea.length lc) := HQ.out wL hbL2 4; have xL3 : wL.cell? ⟨D, 3, none⟩ = some (.slice SA T.ses.length sc) := (by rw [cell_of_block hp2L 3]; rfl); have xL4 : wL.cell? ⟨D, 4, none⟩ = some (.slice LA T.lea.length lc) := (by rw [cell_of_block hp2L 4]; rfl); have yL3 : wL.frozen? ⟨D, 3, none⟩ = false := unfrozen_of_block hp2L 3; have yL4 : wL.frozen? ⟨D, 4, none⟩ = false := unfrozen_of_block hp2L 4))
  all_goals
    have KI := Lib.hid hI
    have KL := Lib.hid hL
    clear hI hL
    go_wp2
    go_ret
    first
    | exact ⟨rfl, ⟨_, _, rep_two hp2L KI.out KL.out⟩, (hbL2.setCell (p := ⟨D, 3, none⟩) (Nat.le_refl D) _).setCell (p := ⟨D, 4, none⟩) (Nat.le_refl D) _⟩
    | exact ⟨rfl, ⟨_, _, rep_two hp2I KI.out KL.out⟩, (hbI2.setCell (p := ⟨D, 3, none⟩) (Nat.le_refl D) _).setCell (p := ⟨D, 4, none⟩) (Nat.le_refl D) _⟩
end Go.Proofs.YtmadiakafeofeaaDoor
