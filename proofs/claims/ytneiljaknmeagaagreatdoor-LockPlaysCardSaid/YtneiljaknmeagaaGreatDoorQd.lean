/-
  The contracts of the two functions that read numbers, one after another. Their conditions are their hypotheses.
-/
import Derived.Test.YtneiljaknmeagaaGreatDoorQc
import Derived.Test.YtneiljaknmeagaaGreatDoorQa
import Derived.Test.YtneiljaknmeagaaGreatDoorBj
namespace Go.Proofs.YtneiljaknmeagaaGreatDoor
open Go.RowKit Go.Joins
set_option linter.unusedVariables false
set_option linter.unusedSimpArgs false
/-- What the numbers of words give. -/
def NumsP (m : Int) (us : List (List UInt8)) (B : Nat) (W : World) (e : Ending) (w' : World) : Prop := (∃ v b, e = .returned (.tuple #[v, .bool b]) ∧ ((b = true ∧ ∃ ns, numsP m us = some ns ∧ w'.ownsRow B 2 1 v ns.length (ns.map (Value.int .i64))) ∨ (b = false ∧ numsP m us = none))) ∧ Below B W w'
set_option maxRecDepth 100000 in
set_option maxHeartbeats 2000000 in
theorem nums_any (A : Option Addr) (c : Nat) (us : List (List UInt8)) (w : World) (h : RowAt w A (us.map strV)) (hl : us.length ≤ 100000) (hs : ∀ u ∈ us, u.length ≤ 100000) (hw : Wd w) :
    Calls Tryz.prog 54 #[.slice A us.length c] w (NumsP mId us w.heap.size w) := by
  obtain ⟨i0, hi, hz0, hz1, hz2⟩ := info_parts infoI
  have HI0 := Lib.hid (And.intro hi (And.intro hz0 (And.intro hz1 hz2)))
  clear hi hz0 hz1 hz2
  have HRA := Lib.hid h
  have HS := Lib.hid hs
  have HWD := Lib.hid hw
  obtain ⟨R, hR⟩ : ∃ R, R = numsP mId us := ⟨_, rfl⟩
  have HR := Lib.hid hR
  unfold NumsP
  rw [← hR]
  obtain ⟨B, hB⟩ : ∃ B, B = w.heap.size := ⟨_, rfl⟩
  have HB := Lib.hid hB
  rw [← hB]
  clear h hs hR hB hw
  go_enter Tryz.func54, Tryz.ntmps54
  go_wp2_with fail
  go_loopw [4, 11] (fun o i wr => ∃ (k : Nat) (ns : List Int) (ov : Value), ov = o ∧ k ≤ us.length ∧ i = .int .i64 k ∧ ns.length = k ∧ Hid (numsP mId (us.take k) = some ns) ∧ Hid (wr.ownsRow B 2 1 ov ns.length (ns.map (Value.int .i64))) ∧ Hid (Below B w wr)) (fun _ i _ => us.length - (intOf i).toNat)
  case atStart => exact ⟨0, [], _, rfl, by omega, rfl, rfl, Lib.hid rfl, Lib.hid (World.ownsRow_nil _ _ _ _), Lib.hid (by rw [HB.out]; exact Below.refl _ _)⟩
  case round =>
    obtain ⟨k, ns, ov, rfl, hk, rfl, hnk, HN, HO, G⟩ := hrel
    have HNK := Lib.hid hnk
    clear hnk
    have hBw : B ≤ wr.heap.size := by have := G.out.size; have := HB.out; omega
    by_cases hlt : k < us.length
    · have hlt2 : (k : Int) < (us.length : Int) := by omega
      obtain ⟨u, hu⟩ : ∃ u, us[k]? = some u := ⟨_, List.getElem?_eq_getElem hlt⟩
      have HU := Lib.hid hu
      obtain ⟨b, o, rfl, hc⟩ := (HRA.out.below (HB.out ▸ G.out) (Nat.le_refl _)) k (strV u) (by rw [List.getElem?_map, hu]; rfl)
      unfold strV at hc
      have HCA := Lib.hid (number_any mId u wr (HS.out u (List.mem_of_getElem? hu)) (by decide) (by decide) (HWD.out.on (HB.out ▸ G.out)))
      clear hu
      go_wp2_with fail
      refine HCA.out.mono ?_
      rintro e w1 ⟨⟨n, E, rfl, hor⟩, hb1⟩
      have G1 := Lib.hid (G.out.trans (hb1.mono hBw))
      have HO1 := Lib.hid (own_ext HO.out hb1)
      have hBw1 : B ≤ w1.heap.size := by have := hb1.size; omega
      have hnl : ns.length ≤ 100000 := by have := HNK.out; omega
      clear hb1 hc HCA
      rcases hor with ⟨rfl, hn⟩ | ⟨hE, hn⟩
      · have HN1 := Lib.hid (show numsP mId (us.take (k + 1)) = some (ns ++ [n]) by rw [take_snoc HU.out]; exact numsP_snoc HN.out hn)
        clear hn
        go_wp2_with (at_builtin; go_loud (refine wpList_append_own _ rfl _ _ 27 rfl B 2 i0 (.int .i64 0) 1 8 Tryz.underlying27 HI0.out.1 HI0.out.2.1 HI0.out.2.2.1 HI0.out.2.2.2 rfl (by decide) ov ns.length (ns.map (Value.int .i64)) rfl (HO1.out.alloc _) ⟨w1.heap.size, 0, none⟩ 1 1 [.int .i64 n] rfl rfl (CellsAt.all (by simp [CellsAt, go_sem])) (by simp [Value.oneCell']) (by simp only [maxLen]; omega) (by omega) (by simp; omega) ?_))
        intro o' w5 ho hgr _
        have G5 := Lib.hid (show Below B w w5 from ((G1.out.alloc hBw1 _).grown hgr (by simp; omega) (own_base HO1.out)))
        have HO5 := Lib.hid (show w5.ownsRow B 2 1 o' (ns ++ [n]).length ((ns ++ [n]).map (Value.int .i64)) by
          rw [List.map_append, List.length_append]
          exact ho)
        have hnk5 : (ns ++ [n]).length = k + 1 := by rw [List.length_append, HNK.out]; rfl
        have HNK5 := Lib.hid hnk5
        clear ho hgr hnk5
        go_wp2_with fail
        go_roundw
        case rel => exact ⟨k + 1, ns ++ [n], _, rfl, by omega, by go_num, HNK5.out, HN1, HO5, G5⟩
        case measure => simp [intOf]; omega
      · have hE2 : (E != 0) = true := by simp [hE]
        have HRN : Hid (R = none) := Lib.hid (HR.out.trans (numsP_none (List.mem_of_getElem? HU.out) hn))
        clear hE hn
        go_wp2_with fail
        go_ret2
        exact ⟨⟨_, _, rfl, .inr ⟨rfl, HRN.out⟩⟩, G1.out⟩
    · obtain rfl : k = us.length := by omega
      have HN1 := Lib.hid (show R = some ns by
        rw [HR.out, ← HN.out, List.take_length])
      clear hlt
      go_wp2_with fail
      go_ret2
      exact ⟨⟨_, _, rfl, .inl ⟨rfl, ns, HN1.out, HO.out⟩⟩, G.out⟩
set_option maxRecDepth 100000 in
set_option maxHeartbeats 2000000 in
theorem numsr_any (A : Option Addr) (c : Nat) (us : List (List UInt8)) (w : World) (h : RowAt w A (us.map strV)) (hl : us.length ≤ 100000) (hs : ∀ u ∈ us, u.length ≤ 100000) :
    Calls Tryz.prog 28 #[.slice A us.length c, .int .i64 1109889995776] w (NumsP mRf us w.heap.size w) := by
  obtain ⟨i0, hi, hz0, hz1, hz2⟩ := info_parts infoI
  have HI0 := Lib.hid (And.intro hi (And.intro hz0 (And.intro hz1 hz2)))
  clear hi hz0 hz1 hz2
  have HRA := Lib.hid h
  have HS := Lib.hid hs

  obtain ⟨R, hR⟩ : ∃ R, R = numsP mRf us := ⟨_, rfl⟩
  have HR := Lib.hid hR
  unfold NumsP
  rw [← hR]
  obtain ⟨B, hB⟩ : ∃ B, B = w.heap.size := ⟨_, rfl⟩
  have HB := Lib.hid hB
  rw [← hB]
  clear h hs hR hB
  go_enter Tryz.func28, Tryz.ntmps28
  go_wp2_with fail
  go_loopw [6, 13] (fun o i wr => ∃ (k : Nat) (ns : List Int) (ov : Value), ov = o ∧ k ≤ us.length ∧ i = .int .i64 k ∧ ns.length = k ∧ Hid (numsP mRf (us.take k) = some ns) ∧ Hid (wr.ownsRow B 2 1 ov ns.length (ns.map (Value.int .i64))) ∧ Hid (Below B w wr)) (fun _ i _ => us.length - (intOf i).toNat)
  case atStart => exact ⟨0, [], _, rfl, by omega, rfl, rfl, Lib.hid rfl, Lib.hid (World.ownsRow_nil _ _ _ _), Lib.hid (by rw [HB.out]; exact Below.refl _ _)⟩
  case round =>
    obtain ⟨k, ns, ov, rfl, hk, rfl, hnk, HN, HO, G⟩ := hrel
    have HNK := Lib.hid hnk
    clear hnk
    have hBw : B ≤ wr.heap.size := by have := G.out.size; have := HB.out; omega
    by_cases hlt : k < us.length
    · have hlt2 : (k : Int) < (us.length : Int) := by omega
      obtain ⟨u, hu⟩ : ∃ u, us[k]? = some u := ⟨_, List.getElem?_eq_getElem hlt⟩
      have HU := Lib.hid hu
      obtain ⟨b, o, rfl, hc⟩ := (HRA.out.below (HB.out ▸ G.out) (Nat.le_refl _)) k (strV u) (by rw [List.getElem?_map, hu]; rfl)
      unfold strV at hc
      have HCA := Lib.hid (numberr_any mRf u wr (HS.out u (List.mem_of_getElem? hu)) (by decide) (by decide))
      clear hu
      go_wp2_with fail
      refine HCA.out.mono ?_
      rintro e w1 ⟨⟨n, E, rfl, hor⟩, hb1⟩
      have G1 := Lib.hid (G.out.trans (hb1.mono hBw))
      have HO1 := Lib.hid (own_ext HO.out hb1)
      have hBw1 : B ≤ w1.heap.size := by have := hb1.size; omega
      have hnl : ns.length ≤ 100000 := by have := HNK.out; omega
      clear hb1 hc HCA
      rcases hor with ⟨rfl, hn⟩ | ⟨hE, hn⟩
      · have HN1 := Lib.hid (show numsP mRf (us.take (k + 1)) = some (ns ++ [n]) by rw [take_snoc HU.out]; exact numsP_snoc HN.out hn)
        clear hn
        go_wp2_with (at_builtin; go_loud (refine wpList_append_own _ rfl _ _ 27 rfl B 2 i0 (.int .i64 0) 1 8 Tryz.underlying27 HI0.out.1 HI0.out.2.1 HI0.out.2.2.1 HI0.out.2.2.2 rfl (by decide) ov ns.length (ns.map (Value.int .i64)) rfl (HO1.out.alloc _) ⟨w1.heap.size, 0, none⟩ 1 1 [.int .i64 n] rfl rfl (CellsAt.all (by simp [CellsAt, go_sem])) (by simp [Value.oneCell']) (by simp only [maxLen]; omega) (by omega) (by simp; omega) ?_))
        intro o' w5 ho hgr _
        have G5 := Lib.hid (show Below B w w5 from ((G1.out.alloc hBw1 _).grown hgr (by simp; omega) (own_base HO1.out)))
        have HO5 := Lib.hid (show w5.ownsRow B 2 1 o' (ns ++ [n]).length ((ns ++ [n]).map (Value.int .i64)) by
          rw [List.map_append, List.length_append]
          exact ho)
        have hnk5 : (ns ++ [n]).length = k + 1 := by rw [List.length_append, HNK.out]; rfl
        have HNK5 := Lib.hid hnk5
        clear ho hgr hnk5
        go_wp2_with fail
        go_roundw
        case rel => exact ⟨k + 1, ns ++ [n], _, rfl, by omega, by go_num, HNK5.out, HN1, HO5, G5⟩
        case measure => simp [intOf]; omega
      · have hE2 : (E != 0) = true := by simp [hE]
        have HRN : Hid (R = none) := Lib.hid (HR.out.trans (numsP_none (List.mem_of_getElem? HU.out) hn))
        clear hE hn
        go_wp2_with fail
        go_ret2
        exact ⟨⟨_, _, rfl, .inr ⟨rfl, HRN.out⟩⟩, G1.out⟩
    · obtain rfl : k = us.length := by omega
      have HN1 := Lib.hid (show R = some ns by
        rw [HR.out, ← HN.out, List.take_length])
      clear hlt
      go_wp2_with fail
      go_ret2
      exact ⟨⟨_, _, rfl, .inl ⟨rfl, ns, HN1.out, HO.out⟩⟩, G.out⟩
end Go.Proofs.YtneiljaknmeagaaGreatDoor
