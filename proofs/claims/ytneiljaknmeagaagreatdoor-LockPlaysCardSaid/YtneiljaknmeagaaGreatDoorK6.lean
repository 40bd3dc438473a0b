/-
  The contract of slices.Insert of one lease. Its conditions are its hypotheses.
-/
import Derived.Test.YtneiljaknmeagaaGreatDoorBd
import Derived.Test.YtneiljaknmeagaaGreatDoorCp
import Derived.Deep.AppendLies
import Derived.Deep.RegionLaw
import Derived.BigRegion
import Derived.Lib.Overlaps
import Derived.Lib.AppendZerosOnto
import Derived.Laws.NewBlocks
import Derived.Laws.Externs
namespace Go.Proofs.YtneiljaknmeagaaGreatDoor
open Go.RowKit Go.Joins
set_option linter.unusedVariables false
set_option linter.unusedSimpArgs false
def InsP (B : Nat) (lv : Value) (L' : List Ls) (W : World) (e : Ending) (w' : World) : Prop :=
  ∃ v', e = .returned v' ∧ w'.ownsRow B 49 4 v' L'.length (L'.flatMap lsV) ∧ W.grownBy w' lv.ownBlock ∧ ∀ g, v'.ownBlock = some g → lv.ownBlock = some g ∨ W.heap.size ≤ g
theorem lsV_one (x : Ls) : ∀ u ∈ lsV x, u.oneCell' = true := by simp [lsV, Value.oneCell']
theorem flat_one (L : List Ls) : ∀ u ∈ L.flatMap lsV, u.oneCell' = true := by
  intro u hu
  obtain ⟨x, _, hx⟩ := List.mem_flatMap.1 hu
  exact lsV_one x u hx
theorem news_of {w : World} {vb : Nat} {x : Ls} {t : TypeId} (hv : w.heap[vb]? = some (.cells (lsV x).toArray t (0, 0))) : ∀ j u, (lsV x)[j]? = some u → w.cell? ((⟨vb, 0, none⟩ : Addr).add j) = some u :=
  World.news_of_block (cs := (lsV x).toArray) hv
theorem insert_end (B : Nat) (lv : Value) (L : List Ls) (x : Ls) (vb : Nat) (w : World) (hown : w.ownsRow B 49 4 lv L.length (L.flatMap lsV)) (hl : L.length ≤ 1000)
    (hv : w.heap[vb]? = some (.cells (lsV x).toArray 49 (0, 0))) (hB : B ≤ w.heap.size) :
    Calls Tryz.prog 50 #[lv, .int .i64 L.length, .slice (some ⟨vb, 0, none⟩) 1 1] w (InsP B lv (L ++ [x]) w) := by
  obtain ⟨i0, hi, hz0, hz1, hz2⟩ := info_parts infoL
  have HI0 := Lib.hid (And.intro hi (And.intro hz0 (And.intro hz1 hz2)))
  have HO := Lib.hid hown
  have HV := Lib.hid hv
  clear hi hz0 hz1 hz2 hv
  have HE := Lib.hid (show ∀ g cap w', w'.ownsRow B 49 4 (.slice (some ⟨g, 0, none⟩) (L.length + 1) cap) (L.length + 1) (L.flatMap lsV ++ lsV x) → w.grownBy w' lv.ownBlock → (lv.ownBlock = some g ∨ g = w.heap.size) → InsP B lv (L ++ [x]) w (.returned (.slice (some ⟨g, 0, none⟩) (L.length + 1) cap)) w' from fun g cap w' h1 h2 h3 =>
    ⟨_, rfl, by rw [List.flatMap_append, List.length_append]; simpa using h1, h2, fun g' hg' => by
      cases hg'
      rcases h3 with h3 | h3
      · exact .inl h3
      · exact .inr (Nat.le_of_eq h3.symm)⟩)
  rcases hown.2 with ⟨rfl, h0⟩ | ⟨g, cap, cur, rfl, hgB, hg, hnc, hcm, _, _⟩
  · clear hown
    rw [h0] at *
    go_enter Tryz.func50, Tryz.ntmps50
    go_wp2_with (at_builtin; go_loud (refine wpList_append_lies _ rfl _ _ 28 rfl B 49 i0 (.agg #[.string ⟨#[]⟩, .int .i64 0, .int .i64 0, .int .i64 0]) 4 40 Tryz.underlying28 HI0.out.1 HI0.out.2.1 HI0.out.2.2.1 HI0.out.2.2.2 rfl (by decide) (.slice none 0 0) 0 (L.flatMap lsV) rfl HO.out ⟨vb, 0, none⟩ 1 1 (lsV x) rfl rfl (news_of HV.out) (lsV_one x) (by omega) (by simp only [maxLen]; omega) (by omega) hB _ rfl ?_))
    intro g' cap' w1 hown1 hgrow hat hlt
    go_wp2_with fail
    go_ret
    exact HE.out g' cap' w1 hown1 hgrow hat
  · have hcm' : cap ≤ 9223372036854775807 := by simpa [maxLen] using hcm
    clear hown hcm
    by_cases hc : cap = L.length
    all_goals
      go_enter Tryz.func50, Tryz.ntmps50
      go_wp2_with (at_builtin; go_loud (refine wpList_append_lies _ rfl _ _ 28 rfl B 49 i0 (.agg #[.string ⟨#[]⟩, .int .i64 0, .int .i64 0, .int .i64 0]) 4 40 Tryz.underlying28 HI0.out.1 HI0.out.2.1 HI0.out.2.2.1 HI0.out.2.2.2 rfl (by decide) (.slice (some ⟨g, 0, none⟩) L.length cap) L.length (L.flatMap lsV) (by simp [hc, Act.eval]) HO.out ⟨vb, 0, none⟩ 1 1 (lsV x) rfl rfl (news_of HV.out) (lsV_one x) (by omega) (by simp only [maxLen]; omega) (by omega) hB _ rfl ?_))
      intro g' cap' w1 hown1 hgrow hat hlt
      go_wp2_with fail
      go_ret
      exact HE.out g' cap' w1 hown1 hgrow hat
set_option maxRecDepth 100000 in
set_option maxHeartbeats 1000000 in
theorem insert_room (B g cap i : Nat) (L : List Ls) (x : Ls) (vb : Nat) (cur : List Value) (w : World) (hi : i < L.length) (hroom : L.length + 1 ≤ cap) (hcm : cap ≤ maxLen)
    (hg : w.heap[g]? = some (.cells cur.toArray 49 (0, 0))) (hsz : cur.length = cap * 4) (hpre : cur.take (L.length * 4) = L.flatMap lsV) (hl : L.length ≤ 1000)
    (hv : w.heap[vb]? = some (.cells (lsV x).toArray 49 (0, 0))) (hne : vb ≠ g) (hgB : B ≤ g) :
    Calls Tryz.prog 50 #[.slice (some ⟨g, 0, none⟩) L.length cap, .int .i64 i, .slice (some ⟨vb, 0, none⟩) 1 1] w (InsP B (.slice (some ⟨g, 0, none⟩) L.length cap) (L.take i ++ x :: L.drop i) w) := by
  generalize hn : L.length = n at *
  have hcm' : cap ≤ 9223372036854775807 := by simpa [maxLen] using hcm
  have hi2 : (i : Int) < (n : Int) := by omega
  have hi3 : ¬ ((i : Int) = (n : Int)) := by omega
  have hb0 : ¬ (cap = i) := by omega
  have hb1 : ¬ (cap = i + 1) := by omega
  have hb2 : (i : Int) + 1 ≤ (n : Int) + 1 := by omega
  have hb3 : ¬ ((cap : Int) < (n : Int) + 1) := by omega
  have hb4 : (i : Int) ≤ (n : Int) + 1 := by omega
  have htn : ((i : Int) + 1).toNat = i + 1 := by omega
  have htn2 : ((n : Int) + 1).toNat = n + 1 := by omega
  have hov : ∀ lb cb, (callFunc 71 #[.slice (some ⟨vb, 0, none⟩) 1 1, .slice (some ⟨g, (i + 1) * 4, none⟩) lb cb]).run Tryz.prog w = .ok (.value (.bool false)) w := fun lb cb => by
    rw [run_callFunc_extern Tryz.func71 (by kernel_rfl) (by kernel_rfl) (by kernel_rfl) (e := Extern.SlicesOverlaps.overlaps #[28, 28] #[4]) (by kernel_rfl),
      Lib.run_overlaps_apart w 28 4 49 Tryz.underlying28 4 Tryz.sizeOf49 ⟨vb, 0, none⟩ ⟨g, (i + 1) * 4, none⟩ 1 1 lb cb hne 49 49 4 (cap * 4)
        (by simp [World.shape?, hv, lsV]) (by simp [World.shape?, hg, hsz]) (by omega) (by simp [World.frozen?, hv]) (by simp [World.frozen?, hv])]
    rfl
  have hinf : (Tryz.prog.info? 49).map (·.size) = some 4 := by kernel_rfl
  have hC : ((L.drop i).flatMap lsV).length = (n - i) * 4 := by rw [flat_len lsV_len, List.length_drop, hn]
  have hAcur : cur.take (i * 4) = (L.take i).flatMap lsV := by
    rw [← flat_take lsV_len, ← hpre, List.take_take]
    congr 1
    omega
  have hsrc : ∀ j v, ((L.drop i).flatMap lsV)[j]? = some v → w.cell? ((⟨g, i * 4, none⟩ : Addr).add j) = some v := by
    intro j v hj
    rw [Addr.add_lit, cell_of_block hg (i * 4 + j)]
    rw [← flat_drop lsV_len, ← hpre, List.getElem?_drop, List.getElem?_take] at hj
    split at hj
    · simpa using hj
    · cases hj
  have hcp1 : ∀ ty dc sc, (Builtin.copy_ #[28, 28] ty #[.slice (some ⟨g, (i + 1) * 4, none⟩) (n - i) dc, .slice (some ⟨g, i * 4, none⟩) (n + 1 - i) sc]).run Tryz.prog w.drew = .ok (goInt (n - i : Nat)) (w.drew.setRow g (splice cur ((i + 1) * 4) ((L.drop i).flatMap lsV)).toArray) := fun ty dc sc =>
    run_copyK w.drew _ _ ty 49 4 (n - i) g ((i + 1) * 4) (n - i) dc ⟨g, i * 4, none⟩ (n + 1 - i) sc cur _ _ Tryz.underlying28 hinf hg (by simp only [Nat.min_def]; split <;> omega) hC hsrc (by rw [hC]; omega) (flat_one _)
  obtain ⟨W1, hW1⟩ : ∃ W1, W1 = w.drew.setRow g (splice cur ((i + 1) * 4) ((L.drop i).flatMap lsV)).toArray := ⟨_, rfl⟩
  rw [← hW1] at hcp1
  have hg1 : W1.heap[g]? = some (.cells (splice cur ((i + 1) * 4) ((L.drop i).flatMap lsV)).toArray 49 (0, 0)) := by rw [hW1]; exact setRow_heap w.drew g _ _ _ _ hg
  have hv1 : W1.heap[vb]? = some (.cells (lsV x).toArray 49 (0, 0)) := by rw [hW1, setRow_other _ _ _ _ hne]; exact hv
  have hs1 : (splice cur ((i + 1) * 4) ((L.drop i).flatMap lsV)).length = cur.length := length_splice _ _ _ (by rw [hC]; omega)
  have hcp2 : ∀ ty dc, (Builtin.copy_ #[28, 28] ty #[.slice (some ⟨g, i * 4, none⟩) (n + 1 - i) dc, .slice (some ⟨vb, 0, none⟩) 1 1]).run Tryz.prog W1 = .ok (goInt (1 : Nat)) (W1.setRow g (splice (splice cur ((i + 1) * 4) ((L.drop i).flatMap lsV)) (i * 4) (lsV x)).toArray) := fun ty dc =>
    run_copyK W1 _ _ ty 49 4 1 g (i * 4) (n + 1 - i) dc ⟨vb, 0, none⟩ 1 1 _ _ _ Tryz.underlying28 hinf hg1 (by simp only [Nat.min_def]; split <;> omega) (lsV_len x) (news_of hv1) (by rw [hs1, lsV_len]; omega) (lsV_one x)
  have HF := Lib.hid (show InsP B (.slice (some ⟨g, 0, none⟩) n cap) (L.take i ++ x :: L.drop i) w (.returned (.slice (some ⟨g, 0, none⟩) (n + 1) cap)) (W1.setRow g (splice (splice cur ((i + 1) * 4) ((L.drop i).flatMap lsV)) (i * 4) (lsV x)).toArray) by
    have hlen : (L.take i ++ x :: L.drop i).length = n + 1 := by simp; omega
    have hspl := splice_shift cur (lsV x) ((L.drop i).flatMap lsV) (i * 4) (by rw [hC, lsV_len]; omega)
    rw [lsV_len, show i * 4 + 4 = (i + 1) * 4 by omega] at hspl
    refine ⟨_, rfl, ?_, ?_, fun g' h => by cases h; exact .inl rfl⟩
    · refine ⟨by rw [flat_len lsV_len], .inr ⟨g, cap, _, by rw [hlen], hgB, setRow_heap W1 g _ _ _ _ hg1, by rw [hlen]; exact hroom, hcm, ?_, ?_⟩⟩
      · rw [hspl]
        simp [hC, lsV_len, hAcur, flat_len lsV_len]
        omega
      · rw [hspl, hlen, hAcur]
        simp only [List.flatMap_append, List.flatMap_cons]
        have e0 : ((L.take i).flatMap lsV).length = i * 4 := by rw [flat_len lsV_len, List.length_take]; congr 1; omega
        show List.take ((n + 1) * 4) _ = _
        rw [← List.append_assoc, ← List.append_assoc, List.append_assoc (List.flatMap lsV (List.take i L)), List.take_append_of_le_length (by simp [e0, hC, lsV_len]; omega), List.take_of_length_le (by simp [e0, hC, lsV_len]; omega)]
    · have hgl : g < w.heap.size := (Array.getElem?_eq_some_iff.1 hg).1
      rw [hW1]
      refine ⟨rfl, rfl, rfl, by simp [World.setRow], fun k hk hkg => ?_⟩
      have hkg' : k ≠ g := fun e => hkg (by rw [e]; rfl)
      rw [setRow_other _ _ _ _ hkg', setRow_other _ _ _ _ hkg']
      rfl)
  generalize lsV x = X at *
  have hw1 : IntKind.i64.wrap ((i : Int) + 1) = (i : Int) + 1 := by rw [IntKind.wrap_i64]; omega
  have hw2 : (0 : Int) ≤ (i : Int) + 1 := by omega
  clear hg hv hsz hpre hn hcm hg1 hv1 hs1 hC hAcur hsrc hl
  have HW := Lib.hid hW1
  go_enter Tryz.func50, Tryz.ntmps50
  clear hW1
  go_wp2_with (simp only [hov])
  go_region_law (refine step_copyK rfl _ _ 28 28 rfl (by simp [Act.eval, Act.put]; rfl) (by simp [Act.eval, Act.put]; rfl) (hcp1 _ _ _) ?_)
  go_wp2_with (at_builtin; go_loud (refine wpList_copyK rfl _ _ 28 28 rfl rfl rfl (hcp2 _ _) ?_))
  go_ret
  exact HF.out
theorem zero_len (k : Nat) : (Builtin.zeroCells (Value.cells (.agg #[.string ⟨#[]⟩, .int .i64 0, .int .i64 0, .int .i64 0])) k).size = k * 4 := by
  simp [Builtin.zeroCells, Value.cells]
theorem grown_setRow {w W : World} {N : Nat} (h : w.grownBy W none) (hN : w.heap.size ≤ N) (cs : Array Value) : w.grownBy (W.setRow N cs) none := by
  refine ⟨h.os, h.tape, h.output, by have := h.size; simpa [World.setRow] using this, fun k hk hn => ?_⟩
  rw [setRow_other _ _ _ _ (by omega)]
  exact h.block k hk hn
set_option maxRecDepth 100000 in
set_option maxHeartbeats 1000000 in
theorem insert_grow (B g cap i : Nat) (L : List Ls) (x : Ls) (vb : Nat) (cur : List Value) (w : World) (hi : i < L.length) (hnc : L.length ≤ cap) (hroom : cap < L.length + 1) (hB : B ≤ w.heap.size)
    (hg : w.heap[g]? = some (.cells cur.toArray 49 (0, 0))) (hsz : cur.length = cap * 4) (hpre : cur.take (L.length * 4) = L.flatMap lsV) (hl : L.length ≤ 1000)
    (hv : w.heap[vb]? = some (.cells (lsV x).toArray 49 (0, 0))) :
    Calls Tryz.prog 50 #[.slice (some ⟨g, 0, none⟩) L.length cap, .int .i64 i, .slice (some ⟨vb, 0, none⟩) 1 1] w (InsP B (.slice (some ⟨g, 0, none⟩) L.length cap) (L.take i ++ x :: L.drop i) w) := by
  obtain ⟨i0, hi0, hz0, hz1, hz2⟩ := info_parts infoL
  generalize hn : L.length = n at *
  have hi2 : (i : Int) < (n : Int) := by omega
  have hi3 : ¬ ((i : Int) = (n : Int)) := by omega
  have hb0 : ¬ (cap = i) := by omega
  have hb3 : (cap : Int) < (n : Int) + 1 := by omega
  have hb4 : (i : Int) ≤ (n : Int) := by omega
  have htn : ((i : Int) + 1).toNat = i + 1 := by omega
  have hinf : (Tryz.prog.info? 49).map (·.size) = some 4 := by kernel_rfl
  have hA : ((L.take i).flatMap lsV).length = i * 4 := by rw [flat_len lsV_len, List.length_take]; congr 1; omega
  have hC : ((L.drop i).flatMap lsV).length = (n - i) * 4 := by rw [flat_len lsV_len, List.length_drop, hn]
  have hAcur : cur.take (i * 4) = (L.take i).flatMap lsV := by
    rw [← flat_take lsV_len, ← hpre, List.take_take]
    congr 1
    omega
  have hgw : g < w.heap.size := (Array.getElem?_eq_some_iff.1 hg).1
  have hvw : vb < w.heap.size := (Array.getElem?_eq_some_iff.1 hv).1
  have hsrcA : ∀ j v, ((L.take i).flatMap lsV)[j]? = some v → w.drew.cell? ((⟨g, 0, none⟩ : Addr).add j) = some v := by
    intro j v hj
    rw [Addr.add_lit, show w.drew.cell? ⟨g, 0 + j, none⟩ = w.cell? ⟨g, 0 + j, none⟩ from rfl, cell_of_block hg (0 + j), Nat.zero_add]
    rw [← hAcur, List.getElem?_take] at hj
    split at hj
    · simpa using hj
    · cases hj
  have hrz : ∀ ty, (Builtin.append_ #[28, 3] ty #[.slice (some ⟨g, 0, none⟩) i cap, .int .i64 ((n : Int) + 1 - (i : Int))]).run Tryz.prog w = .ok (.slice (some ⟨w.heap.size, 0, none⟩) (n + 1) (grownCap w (n + 1) cap 49)) (w.drew.alloc (.cells (((L.take i).flatMap lsV).toArray ++ Builtin.zeroCells (Value.cells (.agg #[.string ⟨#[]⟩, .int .i64 0, .int .i64 0, .int .i64 0])) (n + 1 - i) ++ Builtin.zeroCells (Value.cells (.agg #[.string ⟨#[]⟩, .int .i64 0, .int .i64 0, .int .i64 0])) (grownCap w (n + 1) cap 49 - (n + 1))) 49)) := fun ty => by
    have h := Lib.run_append_grow_zeros w 28 3 ty 49 i0 _ .i64 .i64 Tryz.underlying28 Tryz.underlying3 hi0 hz0 (some ⟨g, 0, none⟩) i cap ((L.take i).flatMap lsV)
      (by rw [hz1]; exact run_firstCells_some w.drew 4 i ⟨g, 0, none⟩ i cap _ hA hsrcA) (n + 1 - i) (by omega) (by rw [hz1]; decide) (by omega) (by omega) (by rw [hz2]; omega) (by rw [hz2]; exact growslice_fits (by omega) (by omega))
    rw [show i + (n + 1 - i) = n + 1 by omega, show (((n + 1 - i : Nat)) : Int) = (n : Int) + 1 - (i : Int) by omega] at h
    exact h
  obtain ⟨G, hG⟩ : ∃ G, G = grownCap w (n + 1) cap 49 := ⟨_, rfl⟩
  rw [← hG] at hrz
  have hGn : n + 1 ≤ G := by rw [hG]; exact grownCap_ge w _ _ _
  have hGm : G ≤ maxLen := by rw [hG]; exact grownCap_le_maxLen w (n + 1) cap _ (by unfold maxLen; omega)
  have hGm' : G ≤ 9223372036854775807 := by simpa [maxLen] using hGm
  clear hG
  obtain ⟨ROW, hROW⟩ : ∃ ROW : List Value, ROW = (((L.take i).flatMap lsV).toArray ++ Builtin.zeroCells (Value.cells (.agg #[.string ⟨#[]⟩, .int .i64 0, .int .i64 0, .int .i64 0])) (n + 1 - i) ++ Builtin.zeroCells (Value.cells (.agg #[.string ⟨#[]⟩, .int .i64 0, .int .i64 0, .int .i64 0])) (G - (n + 1))).toList := ⟨_, rfl⟩
  have hROW2 : ((L.take i).flatMap lsV).toArray ++ Builtin.zeroCells (Value.cells (.agg #[.string ⟨#[]⟩, .int .i64 0, .int .i64 0, .int .i64 0])) (n + 1 - i) ++ Builtin.zeroCells (Value.cells (.agg #[.string ⟨#[]⟩, .int .i64 0, .int .i64 0, .int .i64 0])) (G - (n + 1)) = ROW.toArray := by rw [hROW]
  rw [hROW2] at hrz
  clear hROW2
  have hRl : ROW.length = G * 4 := by
    have e1 := zero_len (n + 1 - i)
    have e2 := zero_len (G - (n + 1))
    rw [hROW, Array.length_toList, Array.size_append, Array.size_append, e1, e2]
    simp [hA]
    omega
  have hRA : ROW.take (i * 4) = (L.take i).flatMap lsV := by
    rw [hROW, Array.toList_append, Array.toList_append, List.append_assoc, List.take_append_of_le_length (by simp [hA]), List.take_of_length_le (by simp [hA])]
  clear hROW
  obtain ⟨N, hN⟩ : ∃ N, N = w.heap.size := ⟨_, rfl⟩
  rw [← hN] at hrz
  have hBN : B ≤ N := by omega
  have hcA : ∀ (W : World), w.grownBy W none → W.heap[N]? = some (.cells ROW.toArray 49 (0, 0)) → ∀ ty dc, (Builtin.copy_ #[28, 28] ty #[.slice (some ⟨N, i * 4, none⟩) (n + 1 - i) dc, .slice (some ⟨vb, 0, none⟩) 1 1]).run Tryz.prog W = .ok (goInt (1 : Nat)) (W.setRow N (splice ROW (i * 4) (lsV x)).toArray) := fun W hW hR ty dc =>
    run_copyK W _ _ ty 49 4 1 N (i * 4) (n + 1 - i) dc ⟨vb, 0, none⟩ 1 1 _ _ _ Tryz.underlying28 hinf hR (by simp only [Nat.min_def]; split <;> omega) (lsV_len x) (news_of ((hW.block vb hvw (by simp)).trans hv)) (by rw [lsV_len]; omega) (lsV_one x)
  have hs1 : (splice ROW (i * 4) (lsV x)).length = G * 4 := by rw [length_splice _ _ _ (by rw [lsV_len]; omega), hRl]
  have hcB : ∀ (W : World), w.grownBy W none → W.heap[N]? = some (.cells (splice ROW (i * 4) (lsV x)).toArray 49 (0, 0)) → ∀ ty dc sc, (Builtin.copy_ #[28, 28] ty #[.slice (some ⟨N, (i + 1) * 4, none⟩) (n + 1 - (i + 1)) dc, .slice (some ⟨g, i * 4, none⟩) (n - i) sc]).run Tryz.prog W = .ok (goInt (n - i : Nat)) (W.setRow N (splice (splice ROW (i * 4) (lsV x)) ((i + 1) * 4) ((L.drop i).flatMap lsV)).toArray) := fun W hW hR ty dc sc =>
    run_copyK W _ _ ty 49 4 (n - i) N ((i + 1) * 4) (n + 1 - (i + 1)) dc ⟨g, i * 4, none⟩ (n - i) sc _ _ _ Tryz.underlying28 hinf hR (by simp only [Nat.min_def]; split <;> omega) hC (by
      intro j v hj
      rw [Addr.add_lit, cell_of_block ((hW.block g hgw (by simp)).trans hg) (i * 4 + j)]
      rw [← flat_drop lsV_len, ← hpre, List.getElem?_drop, List.getElem?_take] at hj
      split at hj
      · simpa using hj
      · cases hj) (by rw [hC, hs1]; omega) (flat_one _)
  have HF := Lib.hid (show ∀ (W : World), w.grownBy W none → W.heap[N]? = some (.cells (splice (splice ROW (i * 4) (lsV x)) ((i + 1) * 4) ((L.drop i).flatMap lsV)).toArray 49 (0, 0)) → InsP B (.slice (some ⟨g, 0, none⟩) n cap) (L.take i ++ x :: L.drop i) w (.returned (.slice (some ⟨N, 0, none⟩) (n + 1) G)) W from by
    intro W hW hR
    have hlen : (L.take i ++ x :: L.drop i).length = n + 1 := by simp; omega
    have hspl := splice_grow ROW (lsV x) ((L.drop i).flatMap lsV) (i * 4) (by rw [hC, lsV_len]; omega)
    rw [lsV_len, show i * 4 + 4 = (i + 1) * 4 by omega] at hspl
    refine ⟨_, rfl, ?_, ?_, fun g' h => by cases h; exact .inr (Nat.le_of_eq hN.symm)⟩
    · refine ⟨by rw [flat_len lsV_len], .inr ⟨N, G, _, by rw [hlen], hBN, hR, by rw [hlen]; exact hGn, hGm, ?_, ?_⟩⟩
      · rw [hspl]
        simp [hC, lsV_len, hRA, flat_len lsV_len]
        omega
      · rw [hspl, hlen, hRA]
        simp only [List.flatMap_append, List.flatMap_cons]
        show List.take ((n + 1) * 4) _ = _
        rw [← List.append_assoc, ← List.append_assoc, List.append_assoc (List.flatMap lsV (List.take i L)), List.take_append_of_le_length (by simp [hA, hC, lsV_len]; omega), List.take_of_length_le (by simp [hA, hC, lsV_len]; omega)]
    · exact ⟨hW.os, hW.tape, hW.output, hW.size, fun k hk hkg => hW.block k hk (by simp)⟩)
  have HCA := Lib.hid hcA
  have HCB := Lib.hid hcB
  have HG0 := Lib.hid (show w.grownBy ((w.alloc (.cells ROW.toArray 49)).drew) none from by
    have k := World.grownBy_alloc w (.cells ROW.toArray 49 (0, 0)) none
    exact ⟨k.os, k.tape, k.output, k.size, k.block⟩)
  have HN0 := Lib.hid (show ((w.alloc (.cells ROW.toArray 49)).drew).heap[N]? = some (.cells ROW.toArray 49 (0, 0)) from heap_at w _ hN)
  have HNN := Lib.hid (show w.heap.size ≤ N by omega)
  generalize lsV x = X at *
  have hw1 : IntKind.i64.wrap ((i : Int) + 1) = (i : Int) + 1 := by rw [IntKind.wrap_i64]; omega
  have hw2 : (0 : Int) ≤ (i : Int) + 1 := by omega
  have hik : (i : Int) ≤ (n : Int) + 1 := by omega
  have hGi : ¬ (G = i) := by omega
  have hGj : ¬ (G = i + 1) := by omega
  have htn2 : ((n : Int) + 1).toNat = n + 1 := by omega
  clear hg hv hsz hpre hn hs1 hC hA hAcur hsrcA hl hcA hcB hRl hRA hGm hi0 hz0 hz1 hz2 hinf hN
  go_enter Tryz.func50, Tryz.ntmps50
  go_wp2_with (first
    | (at_builtin; refine Lib.wpList_append_run _ rfl _ _ _ _ rfl _ _ rfl rfl _ _ (hrz _) ?_)
    | (refine wpList_copyK rfl (.tmp 43) (.tmp 44) 28 28 rfl rfl rfl (HCA.out _ HG0.out HN0.out _ _) ?_))
  have HG1 := Lib.hid (grown_setRow HG0.out HNN.out (splice ROW (i * 4) X).toArray)
  have HN1 := Lib.hid (setRow_heap _ N _ (splice ROW (i * 4) X).toArray _ _ HN0.out)
  generalize World.setRow _ _ _ = W2 at *
  clear HG0 HN0 hrz
  have HGd := Lib.hid (show w.grownBy W2.drew none from ⟨HG1.out.os, HG1.out.tape, HG1.out.output, HG1.out.size, HG1.out.block⟩)
  have HNd := Lib.hid (show W2.drew.heap[N]? = _ from HN1.out)
  go_wp2_with fail
  go_region_law (refine step_copyK rfl _ _ 28 28 rfl (by simp [Act.eval, Act.put]; rfl) (by simp [Act.eval, Act.put]; rfl) (HCB.out _ HGd.out HNd.out _ _ _) ?_)
  go_wp2_with fail
  go_ret
  exact HF.out _ (grown_setRow HGd.out HNN.out _) (setRow_heap _ N _ _ _ _ HNd.out)
theorem insert_any (B : Nat) (lv : Value) (L : List Ls) (i : Nat) (x : Ls) (vb : Nat) (w : World) (hown : w.ownsRow B 49 4 lv L.length (L.flatMap lsV)) (hi : i ≤ L.length) (hl : L.length ≤ 1000)
    (hv : w.heap[vb]? = some (.cells (lsV x).toArray 49 (0, 0))) (hB : B ≤ w.heap.size) (hne : lv.ownBlock ≠ some vb) :
    Calls Tryz.prog 50 #[lv, .int .i64 i, .slice (some ⟨vb, 0, none⟩) 1 1] w (InsP B lv (L.take i ++ x :: L.drop i) w) := by
  rcases Nat.lt_or_ge i L.length with h | h
  · rcases hown.2 with ⟨_, h0⟩ | ⟨g, cap, cur, rfl, hgB, hg, hnc, hcm, hs, hp⟩
    · omega
    · have hg' : w.heap[g]? = some (.cells cur.toList.toArray 49 (0, 0)) := by rw [Array.toArray_toList]; exact hg
      have hsz : cur.toList.length = cap * 4 := by rw [Array.length_toList]; exact hs
      rcases Nat.lt_or_ge cap (L.length + 1) with hc | hc
      · exact insert_grow B g cap i L x vb cur.toList w h hnc hc hB hg' hsz hp hl hv
      · exact insert_room B g cap i L x vb cur.toList w h hc hcm hg' hsz hp hl hv (fun e => hne (by rw [e]; rfl)) hgB
  · obtain rfl : i = L.length := by omega
    rw [List.take_length, List.drop_length]
    exact insert_end B lv L x vb w hown hl hv hB
end Go.Proofs.YtneiljaknmeagaaGreatDoor
