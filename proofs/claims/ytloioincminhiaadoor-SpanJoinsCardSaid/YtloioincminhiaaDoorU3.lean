/-
  The contracts of Union, Intersect and Minus. Their conditions are their hypotheses.
-/
import Derived.Test.YtloioincminhiaaDoorU2
import Derived.Test.YtloioincminhiaaDoorR1
namespace Go.Proofs.YtloioincminhiaaDoor
open Go.RowKit Go.Joins
set_option linter.unusedVariables false
set_option linter.unusedSimpArgs false
set_option maxHeartbeats 2000000 in
theorem int_any (P : Option Addr) (c : Nat) (A : List Spn) (P2 : Option Addr) (c2 : Nat) (B : List Spn) (w : World) (ha : SpAt w P A) (hb : SpAt w P2 B) (hla : A.length ≤ 900) (hlb : B.length ≤ 900) :
    Calls Tryd.prog 25 #[.slice P A.length c, .slice P2 B.length c2] w (RetP (intS A B) w) := by
  have HA := Lib.hid ha
  have HB := Lib.hid hb
  obtain ⟨D, hD⟩ : ∃ D, D = w.heap.size := ⟨_, rfl⟩
  have HD := Lib.hid hD
  unfold RetP
  rw [← hD]
  obtain ⟨R, hR⟩ : ∃ R, R = intS A B := ⟨_, rfl⟩
  rw [← hR]
  cases hc : decide (twoS A B = 0) with
  | true =>
    have hc0 : twoS A B = 0 := by simpa using hc
    have hr2 : R = limS (comS A B) := by rw [hR]; unfold intS; rw [if_pos hc0]
    have HR := Lib.hid hr2
    have HC := Lib.hid hc0
    clear ha hb hD hR hc hc0 hr2
    go_enter Tryd.func25, Tryd.ntmps25
    go_wp2_with fail
    refine (two_any P c A P2 c2 B w HA.out HB.out (by omega) (by omega)).mono ?_
    rintro e w1 ⟨rfl, hb⟩
    rw [HC.out]
    have G1 := Lib.hid (show Below D w w1 from HD.out ▸ hb)
    have A1 := Lib.hid (HA.out.ext hb)
    have B1 := Lib.hid (HB.out.ext hb)
    have hs1 : D ≤ w1.heap.size := by have := hb.size; have := HD.out; omega
    clear hb
    go_wp2_with fail
    have G2 := G1
    have hs2 := hs1
    refine (common_any P c A P2 c2 B w1 A1.out B1.out (by omega) (by omega)).mono ?_
    rintro e w3 ⟨⟨v, rfl, ho⟩, hb⟩
    obtain ⟨A3, c3, e3, _⟩ := own_form ho
    subst e3
    go_wp2_with fail
    have HO := Lib.hid (show w3.ownsRow D 32 2 _ (comS A B).length ((comS A B).flatMap spV) from ownsRow_mono ho hs2)
    have G3 := Lib.hid (G2.out.trans (hb.mono hs2))
    clear ho hb
    refine (lim_any D _ _ w3 HO.out).mono ?_
    rintro e w4 ⟨v', rfl, ho, rfl⟩
    rw [← HR.out] at ho ⊢
    go_wp2_with fail
    go_ret2
    exact ⟨⟨_, rfl, ho⟩, G3.out⟩
  | false =>
    have hc0 : ¬ (twoS A B = 0) := by simpa using hc
    obtain ⟨E, hE⟩ : ∃ E, E = twoS A B := ⟨_, rfl⟩
    obtain rfl : R = ([], E) := by rw [hR, hE]; unfold intS; rw [if_neg hc0]
    have HE := Lib.hid hE
    have hc2 : (E == 0) = false := by rw [hE]; simpa using hc0
    clear ha hb hD hR hc hc0 hE
    go_enter Tryd.func25, Tryd.ntmps25
    go_wp2_with fail
    refine (two_any P c A P2 c2 B w HA.out HB.out (by omega) (by omega)).mono ?_
    rintro e w1 ⟨rfl, hb⟩
    rw [← HE.out]
    have G1 := Lib.hid (show Below D w w1 from HD.out ▸ hb)
    clear hb
    go_wp2_with fail
    go_ret2
    exact ⟨⟨_, rfl, World.ownsRow_nil _ _ _ _⟩, G1.out⟩
set_option maxHeartbeats 2000000 in
theorem sub_any (P : Option Addr) (c : Nat) (A : List Spn) (P2 : Option Addr) (c2 : Nat) (B : List Spn) (w : World) (ha : SpAt w P A) (hb : SpAt w P2 B) (hla : A.length ≤ 900) (hlb : B.length ≤ 900) :
    Calls Tryd.prog 19 #[.slice P A.length c, .slice P2 B.length c2] w (RetP (subS A B) w) := by
  have HA := Lib.hid ha
  have HB := Lib.hid hb
  obtain ⟨D, hD⟩ : ∃ D, D = w.heap.size := ⟨_, rfl⟩
  have HD := Lib.hid hD
  unfold RetP
  rw [← hD]
  obtain ⟨R, hR⟩ : ∃ R, R = subS A B := ⟨_, rfl⟩
  rw [← hR]
  cases hc : decide (twoS A B = 0) with
  | true =>
    have hc0 : twoS A B = 0 := by simpa using hc
    have hr2 : R = limS (comS A (rstS (mT + 1) 0 B)) := by rw [hR]; unfold subS; rw [if_pos hc0]
    have HR := Lib.hid hr2
    have HC := Lib.hid hc0
    clear ha hb hD hR hc hc0 hr2
    go_enter Tryd.func19, Tryd.ntmps19
    go_wp2_with fail
    refine (two_any P c A P2 c2 B w HA.out HB.out (by omega) (by omega)).mono ?_
    rintro e w1 ⟨rfl, hb⟩
    rw [HC.out]
    have G1 := Lib.hid (show Below D w w1 from HD.out ▸ hb)
    have A1 := Lib.hid (HA.out.ext hb)
    have B1 := Lib.hid (HB.out.ext hb)
    have hs1 : D ≤ w1.heap.size := by have := hb.size; have := HD.out; omega
    clear hb
    go_wp2_with fail
    refine (rest_any P2 c2 B w1 B1.out (by omega)).mono ?_
    rintro e w2 ⟨⟨v2, rfl, ho⟩, hb⟩
    obtain ⟨A4, c4, e4, hr4, _⟩ := own_form ho
    subst e4
    have G2 := Lib.hid (G1.out.trans (hb.mono hs1))
    have hs2 : D ≤ w2.heap.size := by have := G2.out.size; have := HD.out; omega
    have A2 := Lib.hid (A1.out.ext hb)
    have R2 := Lib.hid hr4
    clear ho hb hr4
    go_wp2_with fail
    refine (common_any P c A A4 c4 _ w2 A2.out R2.out (by omega) (by have := rst_len (mT + 1) 0 B; omega)).mono ?_
    rintro e w3 ⟨⟨v, rfl, ho⟩, hb⟩
    obtain ⟨A3, c3, e3, _⟩ := own_form ho
    subst e3
    clear A2 R2
    go_wp2_with fail
    have HO := Lib.hid (show w3.ownsRow D 32 2 _ (comS A (rstS (mT + 1) 0 B)).length ((comS A (rstS (mT + 1) 0 B)).flatMap spV) from ownsRow_mono ho hs2)
    have G3 := Lib.hid (G2.out.trans (hb.mono hs2))
    clear ho hb
    refine (lim_any D _ _ w3 HO.out).mono ?_
    rintro e w4 ⟨v', rfl, ho, rfl⟩
    rw [← HR.out] at ho ⊢
    go_wp2_with fail
    go_ret2
    exact ⟨⟨_, rfl, ho⟩, G3.out⟩
  | false =>
    have hc0 : ¬ (twoS A B = 0) := by simpa using hc
    obtain ⟨E, hE⟩ : ∃ E, E = twoS A B := ⟨_, rfl⟩
    obtain rfl : R = ([], E) := by rw [hR, hE]; unfold subS; rw [if_neg hc0]
    have HE := Lib.hid hE
    have hc2 : (E == 0) = false := by rw [hE]; simpa using hc0
    clear ha hb hD hR hc hc0 hE
    go_enter Tryd.func19, Tryd.ntmps19
    go_wp2_with fail
    refine (two_any P c A P2 c2 B w HA.out HB.out (by omega) (by omega)).mono ?_
    rintro e w1 ⟨rfl, hb⟩
    rw [← HE.out]
    have G1 := Lib.hid (show Below D w w1 from HD.out ▸ hb)
    clear hb
    go_wp2_with fail
    go_ret2
    exact ⟨⟨_, rfl, World.ownsRow_nil _ _ _ _⟩, G1.out⟩
set_option maxHeartbeats 2000000 in
theorem uni_any (P : Option Addr) (c : Nat) (A : List Spn) (P2 : Option Addr) (c2 : Nat) (B : List Spn) (w : World) (ha : SpAt w P A) (hb : SpAt w P2 B) (hla : A.length ≤ 900) (hlb : B.length ≤ 900) (hfa : Frm P c) (hfb : Frm P2 c2) :
    Calls Tryd.prog 23 #[.slice P A.length c, .slice P2 B.length c2] w (RetP (uniS A B) w) := by
  have HA := Lib.hid ha
  have HB := Lib.hid hb
  obtain ⟨D, hD⟩ : ∃ D, D = w.heap.size := ⟨_, rfl⟩
  have HD := Lib.hid hD
  unfold RetP
  rw [← hD]
  obtain ⟨R, hR⟩ : ∃ R, R = uniS A B := ⟨_, rfl⟩
  rw [← hR]
  cases hc : decide (twoS A B = 0) with
  | true =>
    have hc0 : twoS A B = 0 := by simpa using hc
    have hr2 : R = limS (joinS (A ++ B)) := by rw [hR]; unfold uniS; rw [if_pos hc0]
    have HR := Lib.hid hr2
    have HC := Lib.hid hc0
    clear ha hb hD hR hc hc0 hr2
    go_enter Tryd.func23, Tryd.ntmps23
    go_wp2_with fail
    refine (two_any P c A P2 c2 B w HA.out HB.out (by omega) (by omega)).mono ?_
    rintro e w1 ⟨rfl, hb⟩
    rw [HC.out]
    have G1 := Lib.hid (show Below D w w1 from HD.out ▸ hb)
    have A1 := Lib.hid (HA.out.ext hb)
    have B1 := Lib.hid (HB.out.ext hb)
    have hs1 : D ≤ w1.heap.size := by have := hb.size; have := HD.out; omega
    clear hb
    go_wp2_with fail
    generalize hwc : World.alloc w1 _ = wc
    have cc0 : wc.cell? ⟨w1.heap.size, 0, none⟩ = some (.slice P A.length c) := by subst hwc; simp [go_sem]
    have cc1 : wc.cell? ⟨w1.heap.size, 1, none⟩ = some (.slice P2 B.length c2) := by subst hwc; simp [go_sem]
    have bc : Below w1.heap.size w1 wc := by subst hwc; exact below_one _ _
    refine (concat_any w1.heap.size P c A P2 c2 B wc cc0 cc1 (A1.out.ext bc) (B1.out.ext bc) hfa hfb (by omega) (by omega)).mono ?_
    clear hwc cc0 cc1
    rintro e w2 ⟨⟨v2, rfl, ho⟩, hb⟩
    obtain ⟨A4, c4, e4, hr4, _⟩ := own_form ho
    subst e4
    have G2 := Lib.hid ((G1.out.trans (bc.mono hs1)).trans (hb.mono (Nat.le_trans hs1 bc.size)))
    have hs2 : D ≤ w2.heap.size := by have := G2.out.size; have := HD.out; omega
    have R2 := Lib.hid hr4
    have hlen : (A ++ B).length ≤ 1000000 := by rw [List.length_append]; omega
    clear ho hb hr4 bc
    go_wp2_with fail
    have hmg := merge_any A4 c4 (A ++ B) w2 R2.out hlen
    rw [List.length_append] at hmg
    refine hmg.mono ?_
    clear hmg
    rintro e w3 ⟨⟨v, ys, rfl, hp, hst, ho⟩, hb⟩
    rw [joinS_of (L := A ++ B) hst (fun n => memS_perm hp n)] at ho
    clear hp hst
    obtain ⟨A3, c3, e3, _⟩ := own_form ho
    subst e3
    clear R2 hlen
    go_wp2_with fail
    have HO := Lib.hid (show w3.ownsRow D 32 2 _ (joinS (A ++ B)).length ((joinS (A ++ B)).flatMap spV) from ownsRow_mono ho hs2)
    have G3 := Lib.hid (G2.out.trans (hb.mono hs2))
    clear ho hb
    refine (lim_any D _ _ w3 HO.out).mono ?_
    rintro e w4 ⟨v', rfl, ho, rfl⟩
    rw [← HR.out] at ho ⊢
    go_wp2_with fail
    go_ret2
    exact ⟨⟨_, rfl, ho⟩, G3.out⟩
  | false =>
    have hc0 : ¬ (twoS A B = 0) := by simpa using hc
    obtain ⟨E, hE⟩ : ∃ E, E = twoS A B := ⟨_, rfl⟩
    obtain rfl : R = ([], E) := by rw [hR, hE]; unfold uniS; rw [if_neg hc0]
    have HE := Lib.hid hE
    have hc2 : (E == 0) = false := by rw [hE]; simpa using hc0
    clear ha hb hD hR hc hc0 hE
    go_enter Tryd.func23, Tryd.ntmps23
    go_wp2_with fail
    refine (two_any P c A P2 c2 B w HA.out HB.out (by omega) (by omega)).mono ?_
    rintro e w1 ⟨rfl, hb⟩
    rw [← HE.out]
    have G1 := Lib.hid (show Below D w w1 from HD.out ▸ hb)
    clear hb
    go_wp2_with fail
    go_ret2
    exact ⟨⟨_, rfl, World.ownsRow_nil _ _ _ _⟩, G1.out⟩
end Go.Proofs.YtloioincminhiaaDoor
