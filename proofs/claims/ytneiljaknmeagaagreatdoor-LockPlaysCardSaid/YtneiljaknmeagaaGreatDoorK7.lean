/-
  The contracts of slices.Delete of one element: of leases, and of numbers. Their conditions are their hypotheses.
-/
import Derived.Test.YtneiljaknmeagaaGreatDoorK6
namespace Go.Proofs.YtneiljaknmeagaaGreatDoor
open Go.RowKit Go.Joins
set_option linter.unusedVariables false
set_option linter.unusedSimpArgs false
def inV (n : Int) : List Value := [.int .i64 n]
theorem inV_len (n : Int) : (inV n).length = 1 := rfl
theorem flat_len1 (l : List Int) : (l.flatMap inV).length = l.length := by rw [flat_len inV_len, Nat.mul_one]
theorem flat_take1 (l : List Int) (k : Nat) : (l.flatMap inV).take k = (l.take k).flatMap inV := by have := flat_take inV_len l k; rwa [Nat.mul_one] at this
theorem flat_drop1 (l : List Int) (k : Nat) : (l.flatMap inV).drop k = (l.drop k).flatMap inV := by have := flat_drop inV_len l k; rwa [Nat.mul_one] at this
theorem flat_map1 (l : List Int) : l.flatMap inV = l.map (Value.int .i64) := by
  induction l with
  | nil => rfl
  | cons x r ih => rw [List.flatMap_cons, ih]; rfl
theorem inV_one (n : Int) : ∀ u ∈ inV n, u.oneCell' = true := by simp [inV, Value.oneCell']
def delLP (B : Nat) (g cap : Nat) (L' : List Ls) (W : World) (e : Ending) (w' : World) : Prop :=
  e = .returned (.slice (some ⟨g, 0, none⟩) L'.length cap) ∧ w'.ownsRow B 49 4 (.slice (some ⟨g, 0, none⟩) L'.length cap) L'.length (L'.flatMap lsV) ∧ W.grownBy w' (some g)
set_option maxRecDepth 100000 in
set_option maxHeartbeats 1000000 in
theorem delL_one (B g cap k n1 : Nat) (L : List Ls) (w : World) (hown : w.ownsRow B 49 4 (.slice (some ⟨g, 0, none⟩) L.length cap) L.length (L.flatMap lsV)) (hk : k < L.length) (hn : L.length = n1 + 1) (hl : L.length ≤ 1000) :
    Calls Tryz.prog 67 #[.slice (some ⟨g, 0, none⟩) L.length cap, .int .i64 k, .int .i64 ((k : Int) + 1)] w (delLP B g cap (L.eraseIdx k) w) := by
  obtain ⟨i0, hi0, hz0, hz1, hz2⟩ := info_parts infoL
  obtain ⟨cur, hgB, hg, hnc, hcm, hsz, hpre⟩ : ∃ cur : List Value, B ≤ g ∧ w.heap[g]? = some (.cells cur.toArray 49 (0, 0)) ∧ L.length ≤ cap ∧ cap ≤ maxLen ∧ cur.length = cap * 4 ∧ cur.take (L.length * 4) = L.flatMap lsV := by
    rcases hown.2 with ⟨h, _⟩ | ⟨g', cap', cur, h, h1, h2, h3, h4, h5, h6⟩
    · cases h
    · cases h
      exact ⟨cur.toList, h1, by rw [Array.toArray_toList]; exact h2, h3, h4, by rw [Array.length_toList]; exact h5, h6⟩
  rw [hn] at hnc hpre hl hk
  rw [hn]
  have hcm' : cap ≤ 9223372036854775807 := by simpa [maxLen] using hcm
  have hA : ((L.take k).flatMap lsV).length = k * 4 := by rw [flat_len lsV_len, List.length_take, hn]; congr 1; omega
  have hC : ((L.drop (k + 1)).flatMap lsV).length = (n1 - k) * 4 := by rw [flat_len lsV_len, List.length_drop, hn]; congr 1; omega
  have hAcur : cur.take (k * 4) = (L.take k).flatMap lsV := by
    rw [← flat_take lsV_len, ← hpre, List.take_take]
    congr 1
    omega
  have hsrc : ∀ j v, ((L.drop (k + 1)).flatMap lsV)[j]? = some v → w.drew.cell? ((⟨g, (k + 1) * 4, none⟩ : Addr).add j) = some v := by
    intro j v hj
    rw [Addr.add_lit, show w.drew.cell? ⟨g, (k + 1) * 4 + j, none⟩ = w.cell? ⟨g, (k + 1) * 4 + j, none⟩ from rfl, cell_of_block hg]
    rw [← flat_drop lsV_len, ← hpre, List.getElem?_drop, List.getElem?_take] at hj
    split at hj
    · simpa using hj
    · cases hj
  have hone : ∀ u ∈ (L.drop (k + 1)).flatMap lsV, u.oneCell' = true := by
    intro u hu
    obtain ⟨x, _, hx⟩ := List.mem_flatMap.1 hu
    exact lsV_one x u hx
  obtain ⟨cur1, hcur1⟩ : ∃ cur1, cur1 = splice cur (k * 4) ((L.drop (k + 1)).flatMap lsV) := ⟨_, rfl⟩
  have hl1 : cur1.length = cap * 4 := by rw [hcur1, length_splice _ _ _ (by rw [hC]; omega), hsz]
  obtain ⟨W1, hW1⟩ : ∃ W1, W1 = w.drew.setRow g cur1.toArray := ⟨_, rfl⟩
  have hg1 : W1.heap[g]? = some (.cells cur1.toArray 49 (0, 0)) := by rw [hW1]; exact setRow_heap w.drew g _ _ _ _ hg
  have hrunA : ∀ ty c, (Builtin.append_ #[28, 28] ty #[.slice (some ⟨g, 0, none⟩) k cap, .slice (some ⟨g, (k + 1) * 4, none⟩) (n1 - k) c]).run Tryz.prog w.drew = .ok (.slice (some ⟨g, 0, none⟩) n1 cap) W1 := fun ty c => by
    have h := run_append_roomK (P := Tryz.prog) w.drew 28 ty 49 i0 4 Tryz.underlying28 hi0 hz1 g k cap ⟨g, (k + 1) * 4, none⟩ (n1 - k) c ((L.drop (k + 1)).flatMap lsV) cur 49 hg hC hsrc hone (by omega) (by rw [hC]; omega)
    rw [show k + (n1 - k) = n1 by omega, ← hcur1, ← hW1] at h
    exact h
  have hrunB : cap = k + 1 → ∀ ty c, (Builtin.append_ #[28, 28] ty #[.slice (some ⟨g, 0, none⟩) k cap, .slice (some ⟨g, 0, none⟩) (n1 - k) c]).run Tryz.prog w.drew = .ok (.slice (some ⟨g, 0, none⟩) n1 cap) W1 := fun hc ty c => by
    have hz : n1 - k = 0 := by omega
    have h0 : (L.drop (k + 1)).flatMap lsV = [] := List.eq_nil_of_length_eq_zero (by rw [hC, hz, Nat.zero_mul])
    have h := run_append_roomK (P := Tryz.prog) w.drew 28 ty 49 i0 4 Tryz.underlying28 hi0 hz1 g k cap ⟨g, 0, none⟩ (n1 - k) c ((L.drop (k + 1)).flatMap lsV) cur 49 hg hC (by rw [h0]; simp) hone (by omega) (by rw [hC]; omega)
    rw [show k + (n1 - k) = n1 by omega, ← hcur1, ← hW1] at h
    exact h
  have hcl : ∀ ty c, (Builtin.clear_ #[28] ty #[.slice (some ⟨g, n1 * 4, none⟩) 1 c]).run Tryz.prog W1 = .ok (.tuple #[]) (W1.setRow g (splice cur1 (n1 * 4) (Value.cells (.agg #[.string ⟨#[]⟩, .int .i64 0, .int .i64 0, .int .i64 0])).toList).toArray) := fun ty c =>
    run_clearK W1 28 49 ty _ 4 Tryz.underlying28 Tryz.zeroValue49 rfl (by simp [Value.cells, Value.oneCell']) g (n1 * 4) c cur1 49 hg1 (by rw [hl1]; omega)
  have hzl : (Value.cells (.agg #[.string ⟨#[]⟩, .int .i64 0, .int .i64 0, .int .i64 0])).toList.length = 4 := rfl
  have HF := Lib.hid (show delLP B g cap (L.eraseIdx k) w (.returned (.slice (some ⟨g, 0, none⟩) n1 cap)) (W1.setRow g (splice cur1 (n1 * 4) (Value.cells (.agg #[.string ⟨#[]⟩, .int .i64 0, .int .i64 0, .int .i64 0])).toList).toArray) by
    have hlen : (L.eraseIdx k).length = n1 := by rw [List.length_eraseIdx_of_lt (by omega), hn]; rfl
    have hgl : g < w.heap.size := (Array.getElem?_eq_some_iff.1 hg).1
    refine ⟨by rw [hlen], ?_, ?_⟩
    · rw [hlen]
      refine ⟨by rw [flat_len lsV_len, hlen], .inr ⟨g, cap, _, rfl, hgB, setRow_heap W1 g _ _ _ _ hg1, by omega, hcm, ?_, ?_⟩⟩
      · rw [List.size_toArray, length_splice _ _ _ (by rw [hzl, hl1]; omega), hl1]
      · show (splice cur1 (n1 * 4) _).take (n1 * 4) = _
        rw [List.eraseIdx_eq_take_drop_succ, List.flatMap_append]
        unfold splice
        rw [List.take_append_of_le_length (by rw [List.length_take, hl1]; omega), List.take_take, Nat.min_self, hcur1]
        unfold splice
        rw [hAcur, ← List.append_assoc, List.take_append_of_le_length (by rw [List.length_append, hA, hC]; omega), List.take_of_length_le (by rw [List.length_append, hA, hC]; omega)]
    · rw [hW1]
      refine ⟨rfl, rfl, rfl, by simp [World.setRow], fun j hj hjg => ?_⟩
      have hjg' : j ≠ g := fun e => hjg (by rw [e])
      rw [setRow_other _ _ _ _ hjg', setRow_other _ _ _ _ hjg']
      rfl)
  have HL := Lib.hid hcl
  have HA := Lib.hid hrunA
  have HB := Lib.hid hrunB
  have hki : (k : Int) < (n1 : Int) + 1 := by omega
  have hk1 : (k : Int) + 1 ≤ (n1 : Int) + 1 := by omega
  have hk2 : (k : Int) ≤ (n1 : Int) + 1 := by omega
  have hk0 : (0 : Int) ≤ (k : Int) + 1 := by omega
  have hk3 : (k : Int) ≤ (n1 : Int) := by omega
  have hk4 : (n1 : Int) + 1 ≤ (cap : Int) := by omega
  have hkc : (k : Int) ≤ (cap : Int) := by omega
  have hkt : ((k : Int) + 1).toNat = k + 1 := by omega
  have hkn : ((n1 : Int) + 1).toNat = n1 + 1 := by omega
  have hcn : ¬ (cap = n1) := by omega
  have hck : ¬ (cap = k) := by omega
  clear hown hpre hg hg1 hW1 hl1 hcur1 hsz hA hC hAcur hsrc hone hn hcl hrunA hrunB hzl hi0 hz0 hz1 hz2 hcm
  by_cases hc : cap = k + 1
  · obtain rfl : n1 = k := by omega
    subst hc
    have HB2 := Lib.hid (HB.out rfl)
    have hx : (n1 : Int) ≤ (n1 : Int) + 1 := by omega
    clear hcn hck HB HA
    simp only [Nat.sub_self] at HB2
    go_enter Tryz.func67, Tryz.ntmps67
    go_wp2_with fail
    go_region_law (refine step_appK rfl _ _ 28 28 rfl (by first | (simp [Act.eval, Act.put]; done) | (simp [Act.eval, Act.put]; rfl)) (by first | (simp [Act.eval, Act.put]; done) | (simp [Act.eval, Act.put]; rfl)) (HB2.out _ _) ?_)
    have hcl := HL.out
    go_wp2
    go_ret
    exact HF.out
  · go_enter Tryz.func67, Tryz.ntmps67
    go_wp2_with fail
    go_region_law (refine step_appK rfl _ _ 28 28 rfl (by first | (simp [Act.eval, Act.put]; done) | (simp [Act.eval, Act.put]; rfl)) (by first | (simp [Act.eval, Act.put]; done) | (simp [Act.eval, Act.put]; rfl)) (HA.out _ _) ?_)
    have hcl := HL.out
    go_wp2
    go_ret
    exact HF.out
def delIP (B : Nat) (g cap : Nat) (L' : List Int) (W : World) (e : Ending) (w' : World) : Prop :=
  e = .returned (.slice (some ⟨g, 0, none⟩) L'.length cap) ∧ w'.ownsRow B 2 1 (.slice (some ⟨g, 0, none⟩) L'.length cap) L'.length (L'.flatMap inV) ∧ W.grownBy w' (some g)
set_option maxRecDepth 100000 in
set_option maxHeartbeats 1000000 in
theorem delI_one (B g cap k n1 : Nat) (L : List Int) (w : World) (hown : w.ownsRow B 2 1 (.slice (some ⟨g, 0, none⟩) L.length cap) L.length (L.flatMap inV)) (hk : k < L.length) (hn : L.length = n1 + 1) (hl : L.length ≤ 1000) :
    Calls Tryz.prog 63 #[.slice (some ⟨g, 0, none⟩) L.length cap, .int .i64 k, .int .i64 ((k : Int) + 1)] w (delIP B g cap (L.eraseIdx k) w) := by
  obtain ⟨i0, hi0, hz0, hz1, hz2⟩ := info_parts infoI
  obtain ⟨cur, hgB, hg, hnc, hcm, hsz, hpre⟩ : ∃ cur : List Value, B ≤ g ∧ w.heap[g]? = some (.cells cur.toArray 2 (0, 0)) ∧ L.length ≤ cap ∧ cap ≤ maxLen ∧ cur.length = cap ∧ cur.take (L.length) = L.flatMap inV := by
    rcases hown.2 with ⟨h, _⟩ | ⟨g', cap', cur, h, h1, h2, h3, h4, h5, h6⟩
    · cases h
    · cases h
      exact ⟨cur.toList, h1, by rw [Array.toArray_toList]; exact h2, h3, h4, by rw [Array.length_toList, h5, Nat.mul_one], by rw [← h6, Nat.mul_one]⟩
  rw [hn] at hnc hpre hl hk
  rw [hn]
  have hcm' : cap ≤ 9223372036854775807 := by simpa [maxLen] using hcm
  have hA : ((L.take k).flatMap inV).length = k := by rw [flat_len1, List.length_take, hn]; omega
  have hC : ((L.drop (k + 1)).flatMap inV).length = n1 - k := by rw [flat_len1, List.length_drop, hn]; omega
  have hAcur : cur.take (k) = (L.take k).flatMap inV := by
    rw [← flat_take1, ← hpre, List.take_take]
    congr 1
    omega
  have hsrc : ∀ j v, ((L.drop (k + 1)).flatMap inV)[j]? = some v → w.drew.cell? ((⟨g, k + 1, none⟩ : Addr).add j) = some v := by
    intro j v hj
    rw [Addr.add_lit, show w.drew.cell? ⟨g, k + 1 + j, none⟩ = w.cell? ⟨g, k + 1 + j, none⟩ from rfl, cell_of_block hg]
    rw [← flat_drop1, ← hpre, List.getElem?_drop, List.getElem?_take] at hj
    split at hj
    · simpa using hj
    · cases hj
  have hone : ∀ u ∈ (L.drop (k + 1)).flatMap inV, u.oneCell' = true := by
    intro u hu
    obtain ⟨x, _, hx⟩ := List.mem_flatMap.1 hu
    exact inV_one x u hx
  obtain ⟨cur1, hcur1⟩ : ∃ cur1, cur1 = splice cur (k) ((L.drop (k + 1)).flatMap inV) := ⟨_, rfl⟩
  have hl1 : cur1.length = cap := by rw [hcur1, length_splice _ _ _ (by rw [hC]; omega), hsz]
  obtain ⟨W1, hW1⟩ : ∃ W1, W1 = w.drew.setRow g cur1.toArray := ⟨_, rfl⟩
  have hg1 : W1.heap[g]? = some (.cells cur1.toArray 2 (0, 0)) := by rw [hW1]; exact setRow_heap w.drew g _ _ _ _ hg
  have hrunA : ∀ ty c, (Builtin.append_ #[27, 27] ty #[.slice (some ⟨g, 0, none⟩) k cap, .slice (some ⟨g, k + 1, none⟩) (n1 - k) c]).run Tryz.prog w.drew = .ok (.slice (some ⟨g, 0, none⟩) n1 cap) W1 := fun ty c => by
    have h := run_append_roomK (P := Tryz.prog) w.drew 27 ty 2 i0 1 Tryz.underlying27 hi0 hz1 g k cap ⟨g, k + 1, none⟩ (n1 - k) c ((L.drop (k + 1)).flatMap inV) cur 2 hg (by rw [Nat.mul_one]; exact hC) hsrc hone (by omega) (by rw [hC]; omega)
    rw [Nat.mul_one, show k + (n1 - k) = n1 by omega, ← hcur1, ← hW1] at h
    exact h
  have hrunB : cap = k + 1 → ∀ ty c, (Builtin.append_ #[27, 27] ty #[.slice (some ⟨g, 0, none⟩) k cap, .slice (some ⟨g, 0, none⟩) (n1 - k) c]).run Tryz.prog w.drew = .ok (.slice (some ⟨g, 0, none⟩) n1 cap) W1 := fun hc ty c => by
    have hz : n1 - k = 0 := by omega
    have h0 : (L.drop (k + 1)).flatMap inV = [] := List.eq_nil_of_length_eq_zero (by rw [hC, hz])
    have h := run_append_roomK (P := Tryz.prog) w.drew 27 ty 2 i0 1 Tryz.underlying27 hi0 hz1 g k cap ⟨g, 0, none⟩ (n1 - k) c ((L.drop (k + 1)).flatMap inV) cur 2 hg (by rw [Nat.mul_one]; exact hC) (by rw [h0]; simp) hone (by omega) (by rw [hC]; omega)
    rw [Nat.mul_one, show k + (n1 - k) = n1 by omega, ← hcur1, ← hW1] at h
    exact h
  have hcl : ∀ ty c, (Builtin.clear_ #[27] ty #[.slice (some ⟨g, n1, none⟩) 1 c]).run Tryz.prog W1 = .ok (.tuple #[]) (W1.setRow g (splice cur1 (n1) (Value.cells (.int .i64 0)).toList).toArray) := fun ty c =>
    run_clearK W1 27 2 ty _ 1 Tryz.underlying27 Tryz.zeroValue2 rfl (by simp [Value.cells, Value.oneCell']) g (n1) c cur1 2 hg1 (by rw [hl1]; omega)
  have hzl : (Value.cells (.int .i64 0)).toList.length = 1 := rfl
  have HF := Lib.hid (show delIP B g cap (L.eraseIdx k) w (.returned (.slice (some ⟨g, 0, none⟩) n1 cap)) (W1.setRow g (splice cur1 (n1) (Value.cells (.int .i64 0)).toList).toArray) by
    have hlen : (L.eraseIdx k).length = n1 := by rw [List.length_eraseIdx_of_lt (by omega), hn]; rfl
    have hgl : g < w.heap.size := (Array.getElem?_eq_some_iff.1 hg).1
    refine ⟨by rw [hlen], ?_, ?_⟩
    · rw [hlen]
      refine ⟨by rw [flat_len1, hlen, Nat.mul_one], .inr ⟨g, cap, _, rfl, hgB, setRow_heap W1 g _ _ _ _ hg1, by omega, hcm, ?_, ?_⟩⟩
      · rw [List.size_toArray, length_splice _ _ _ (by rw [hzl, hl1]; omega), hl1, Nat.mul_one]
      · show (splice cur1 n1 _).take (n1 * 1) = _
        rw [Nat.mul_one]
        rw [List.eraseIdx_eq_take_drop_succ, List.flatMap_append]
        unfold splice
        rw [List.take_append_of_le_length (by rw [List.length_take, hl1]; omega), List.take_take, Nat.min_self, hcur1]
        unfold splice
        rw [hAcur, ← List.append_assoc, List.take_append_of_le_length (by rw [List.length_append, hA, hC]; omega), List.take_of_length_le (by rw [List.length_append, hA, hC]; omega)]
    · rw [hW1]
      refine ⟨rfl, rfl, rfl, by simp [World.setRow], fun j hj hjg => ?_⟩
      have hjg' : j ≠ g := fun e => hjg (by rw [e])
      rw [setRow_other _ _ _ _ hjg', setRow_other _ _ _ _ hjg']
      rfl)
  have HL := Lib.hid hcl
  have HA := Lib.hid hrunA
  have HB := Lib.hid hrunB
  have hki : (k : Int) < (n1 : Int) + 1 := by omega
  have hk1 : (k : Int) + 1 ≤ (n1 : Int) + 1 := by omega
  have hk2 : (k : Int) ≤ (n1 : Int) + 1 := by omega
  have hk0 : (0 : Int) ≤ (k : Int) + 1 := by omega
  have hk3 : (k : Int) ≤ (n1 : Int) := by omega
  have hk4 : (n1 : Int) + 1 ≤ (cap : Int) := by omega
  have hkc : (k : Int) ≤ (cap : Int) := by omega
  have hkt : ((k : Int) + 1).toNat = k + 1 := by omega
  have hkn : ((n1 : Int) + 1).toNat = n1 + 1 := by omega
  have hcn : ¬ (cap = n1) := by omega
  have hck : ¬ (cap = k) := by omega
  clear hown hpre hg hg1 hW1 hl1 hcur1 hsz hA hC hAcur hsrc hone hn hcl hrunA hrunB hzl hi0 hz0 hz1 hz2 hcm
  by_cases hc : cap = k + 1
  · obtain rfl : n1 = k := by omega
    subst hc
    have HB2 := Lib.hid (HB.out rfl)
    have hx : (n1 : Int) ≤ (n1 : Int) + 1 := by omega
    clear hcn hck HB HA
    simp only [Nat.sub_self] at HB2
    go_enter Tryz.func63, Tryz.ntmps63
    go_wp2_with fail
    go_region_law (refine step_appK rfl _ _ 27 27 rfl (by first | (simp [Act.eval, Act.put]; done) | (simp [Act.eval, Act.put]; rfl)) (by first | (simp [Act.eval, Act.put]; done) | (simp [Act.eval, Act.put]; rfl)) (HB2.out _ _) ?_)
    have hcl := HL.out
    go_wp2
    go_ret
    exact HF.out
  · go_enter Tryz.func63, Tryz.ntmps63
    go_wp2_with fail
    go_region_law (refine step_appK rfl _ _ 27 27 rfl (by first | (simp [Act.eval, Act.put]; done) | (simp [Act.eval, Act.put]; rfl)) (by first | (simp [Act.eval, Act.put]; done) | (simp [Act.eval, Act.put]; rfl)) (HA.out _ _) ?_)
    have hcl := HL.out
    go_wp2
    go_ret
    exact HF.out
theorem delL_any (B : Nat) (lv : Value) (L : List Ls) (k : Nat) (w : World) (hown : w.ownsRow B 49 4 lv L.length (L.flatMap lsV)) (hk : k < L.length) (hl : L.length ≤ 1000) :
    Calls Tryz.prog 67 #[lv, .int .i64 k, .int .i64 ((k : Int) + 1)] w (InsP B lv (L.eraseIdx k) w) := by
  obtain ⟨g, cap, rfl, _, _⟩ := hown.form (by omega)
  refine (delL_one B g cap k (L.length - 1) L w hown hk (by omega) hl).mono ?_
  rintro e w' ⟨rfl, h1, h2⟩
  exact ⟨_, rfl, h1, h2, fun g' hg' => .inl hg'⟩
def InsI (B : Nat) (sv : Value) (S' : List Int) (W : World) (e : Ending) (w' : World) : Prop :=
  ∃ v', e = .returned v' ∧ w'.ownsRow B 2 1 v' S'.length (S'.map (Value.int .i64)) ∧ W.grownBy w' sv.ownBlock ∧ ∀ g, v'.ownBlock = some g → sv.ownBlock = some g ∨ W.heap.size ≤ g
theorem delI_any (B : Nat) (sv : Value) (S : List Int) (k : Nat) (w : World) (hown : w.ownsRow B 2 1 sv S.length (S.map (Value.int .i64))) (hk : k < S.length) (hl : S.length ≤ 1000) :
    Calls Tryz.prog 63 #[sv, .int .i64 k, .int .i64 ((k : Int) + 1)] w (InsI B sv (S.eraseIdx k) w) := by
  obtain ⟨g, cap, rfl, _, _⟩ := hown.form (by omega)
  refine (delI_one B g cap k (S.length - 1) S w (by rw [flat_map1]; exact hown) hk (by omega) hl).mono ?_
  rintro e w' ⟨rfl, h1, h2⟩
  rw [flat_map1] at h1
  exact ⟨_, rfl, h1, h2, fun g' hg' => .inl hg'⟩
end Go.Proofs.YtneiljaknmeagaaGreatDoor
