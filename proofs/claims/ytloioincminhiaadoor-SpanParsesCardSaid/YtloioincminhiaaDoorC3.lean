/-
  The contracts of Len, Same, few and awake. Their conditions are their hypotheses.
-/
import Derived.Test.YtloioincminhiaaDoorT1
namespace Go.Proofs.YtloioincminhiaaDoor
open Go.RowKit Go.Joins
set_option linter.unusedVariables false
set_option linter.unusedSimpArgs false
theorem lenS_step {L : List Spn} {k : Nat} {x : Spn} (hk : L[k]? = some x) : lenS (L.take (k + 1)) = lenS (L.take k) + (x.o - x.i) := by
  unfold lenS
  rw [List.take_add_one, hk, List.map_append, List.sum_append]
  simp
theorem lenS_take {L : List Spn} (h : chkS L = 0) (k : Nat) (x : Spn) (hk : L[k]? = some x) : (0 ≤ x.i ∧ x.i ≤ 10378368000 ∧ 0 ≤ x.o ∧ x.o ≤ 10378368000) ∧ 0 ≤ lenS (L.take k) ∧ lenS (L.take k) ≤ 4151347200000 := by
  obtain ⟨h1, hc, hb⟩ := chkS_ok.1 h
  refine ⟨chk_bd h x (List.mem_of_getElem? hk), ?_⟩
  obtain ⟨h2, h3⟩ := lenS_bd (L := L.take k) (fun s hs => by
    have hs' := List.mem_of_mem_take hs
    have := hb s hs'
    exact ⟨this.1, can_pos hc s hs', this.2⟩)
  refine ⟨h2, Int.le_trans h3 ?_⟩
  have : (L.take k).length ≤ 400 := Nat.le_trans (List.length_take_le k L |> fun _ => by simp; omega) h1
  have h4 : ((L.take k).length : Int) * 10378368000 ≤ 400 * 10378368000 := Int.mul_le_mul_of_nonneg_right (by omega) (by decide)
  exact Int.le_trans h4 (by decide)
set_option maxHeartbeats 1000000 in
theorem len_any (A : Option Addr) (c : Nat) (L : List Spn) (w : World) (h : SpAt w A L) (hl : L.length ≤ 1000000) :
    Calls Tryd.prog 27 #[.slice A L.length c] w fun e w' => e = .returned (.tuple #[.int .i64 (lnS L).1, .int .i64 (lnS L).2]) ∧ Below w.heap.size w w' := by
  have H := Lib.hid h
  obtain ⟨D, hD⟩ : ∃ D, D = w.heap.size := ⟨_, rfl⟩
  have HD := Lib.hid hD
  rw [← hD]
  obtain ⟨R, hR⟩ : ∃ R, R = lnS L := ⟨_, rfl⟩
  rw [← hR]
  by_cases h0 : chkS L = 0
  · have H0 := Lib.hid h0
    have hlen := (chkS_ok.1 h0).1
    have HBD := Lib.hid (fun (k : Nat) => lenS_take h0 k)
    obtain ⟨S, hS⟩ : ∃ S, S = lenS L := ⟨_, rfl⟩
    have HS := Lib.hid hS
    obtain rfl : R = (S, 0) := by rw [hR, hS]; unfold lnS; rw [if_pos h0]
    clear h h0 hR hS hD
    go_enter Tryd.func27, Tryd.ntmps27
    go_wp2_with fail
    refine (chk_any A c L w H.out (by omega)).mono ?_
    rintro e w1 ⟨rfl, hb⟩
    rw [H0.out]
    have G1 := Lib.hid (show Below D w w1 from HD.out ▸ hb)
    clear hb
    go_wp2_with fail
    go_loopw [5, 15] (fun s i wr => ∃ k : Nat, k ≤ L.length ∧ s = .int .i64 (lenS (L.take k)) ∧ i = .int .i64 k ∧ Hid (Below D w wr)) (fun _ i _ => L.length - (intOf i).toNat)
    case atStart => exact ⟨0, by omega, rfl, rfl, G1⟩
    case round =>
      obtain ⟨k, hk, rfl, rfl, G⟩ := hrel
      have hDw : D ≤ wr.heap.size := by have := G.out.size; have := HD.out; omega
      by_cases hlt : k < L.length
      · have hlt2 : (k : Int) < (L.length : Int) := by omega
        obtain ⟨x, hx⟩ : ∃ x, L[k]? = some x := ⟨_, List.getElem?_eq_getElem hlt⟩
        have HRw := H.out.ext (HD.out ▸ G.out)
        obtain ⟨g, o, rfl⟩ := SpAt.some HRw hx
        obtain ⟨q0, q1⟩ := SpAt.get HRw hx
        obtain ⟨b1, b2, b3⟩ := HBD.out k x hx
        have hst := lenS_step hx
        generalize lenS (L.take k) = a at *
        have w1 : IntKind.i64.wrap (x.o - x.i) = x.o - x.i := by rw [IntKind.wrap_i64]; omega
        have w2 : IntKind.i64.wrap (a + (x.o - x.i)) = a + (x.o - x.i) := by rw [IntKind.wrap_i64]; omega
        have HST := Lib.hid hst
        clear HRw hx b1 b2 b3 hst
        go_wp2_with fail
        go_roundw
        case rel => exact ⟨k + 1, by omega, by rw [HST.out], by go_num, Lib.hid (G.out.alloc hDw _)⟩
        case measure => simp [intOf]; omega
      · obtain rfl : k = L.length := by omega
        rw [List.take_length, ← HS.out]
        clear hlt
        go_wp2_with fail
        go_ret2
        exact ⟨rfl, G.out⟩
  · obtain ⟨E, hE⟩ : ∃ E, E = chkS L := ⟨_, rfl⟩
    obtain rfl : R = (0, E) := by rw [hR, hE]; unfold lnS; rw [if_neg h0]
    have HE := Lib.hid hE
    have hc2 : (E == 0) = false := by rw [hE]; simpa using h0
    clear h h0 hR hE hD
    go_enter Tryd.func27, Tryd.ntmps27
    go_wp2_with fail
    refine (chk_any A c L w H.out (by omega)).mono ?_
    rintro e w1 ⟨rfl, hb⟩
    rw [← HE.out]
    have HBL := Lib.hid (show Below D w w1 from HD.out ▸ hb)
    clear hb
    go_wp2_with fail
    go_ret2
    exact ⟨rfl, HBL.out⟩
set_option maxHeartbeats 1000000 in
theorem lenr_any (A : Option Addr) (c : Nat) (L : List Spn) (w : World) (h : SpAt w A L) (hl : L.length ≤ 1000000) :
    Calls Tryd.prog 28 #[.slice A L.length c] w fun e w' => e = .returned (.tuple #[.int .i64 (lnS L).1, .int .i64 (lnS L).2]) ∧ Below w.heap.size w w' := by
  have H := Lib.hid h
  obtain ⟨D, hD⟩ : ∃ D, D = w.heap.size := ⟨_, rfl⟩
  have HD := Lib.hid hD
  rw [← hD]
  obtain ⟨R, hR⟩ : ∃ R, R = lnS L := ⟨_, rfl⟩
  rw [← hR]
  by_cases h0 : chkS L = 0
  · have H0 := Lib.hid h0
    have hlen := (chkS_ok.1 h0).1
    have HBD := Lib.hid (fun (k : Nat) => lenS_take h0 k)
    obtain ⟨S, hS⟩ : ∃ S, S = lenS L := ⟨_, rfl⟩
    have HS := Lib.hid hS
    obtain rfl : R = (S, 0) := by rw [hR, hS]; unfold lnS; rw [if_pos h0]
    clear h h0 hR hS hD
    go_enter Tryd.func28, Tryd.ntmps28
    go_wp2_with fail
    refine (chkr_any A c L w H.out (by omega)).mono ?_
    rintro e w1 ⟨rfl, hb⟩
    rw [H0.out]
    have G1 := Lib.hid (show Below D w w1 from HD.out ▸ hb)
    clear hb
    go_wp2_with fail
    go_loopw [5, 15] (fun s i wr => ∃ k : Nat, k ≤ L.length ∧ s = .int .i64 (lenS (L.take k)) ∧ i = .int .i64 k ∧ Hid (Below D w wr)) (fun _ i _ => L.length - (intOf i).toNat)
    case atStart => exact ⟨0, by omega, rfl, rfl, G1⟩
    case round =>
      obtain ⟨k, hk, rfl, rfl, G⟩ := hrel
      have hDw : D ≤ wr.heap.size := by have := G.out.size; have := HD.out; omega
      by_cases hlt : k < L.length
      · have hlt2 : (k : Int) < (L.length : Int) := by omega
        obtain ⟨x, hx⟩ : ∃ x, L[k]? = some x := ⟨_, List.getElem?_eq_getElem hlt⟩
        have HRw := H.out.ext (HD.out ▸ G.out)
        obtain ⟨g, o, rfl⟩ := SpAt.some HRw hx
        obtain ⟨q0, q1⟩ := SpAt.get HRw hx
        obtain ⟨b1, b2, b3⟩ := HBD.out k x hx
        have hst := lenS_step hx
        generalize lenS (L.take k) = a at *
        have w1 : IntKind.i64.wrap (x.o - x.i) = x.o - x.i := by rw [IntKind.wrap_i64]; omega
        have w2 : IntKind.i64.wrap (a + (x.o - x.i)) = a + (x.o - x.i) := by rw [IntKind.wrap_i64]; omega
        have HST := Lib.hid hst
        clear HRw hx b1 b2 b3 hst
        go_wp2_with fail
        go_roundw
        case rel => exact ⟨k + 1, by omega, by rw [HST.out], by go_num, Lib.hid (G.out.alloc hDw _)⟩
        case measure => simp [intOf]; omega
      · obtain rfl : k = L.length := by omega
        rw [List.take_length, ← HS.out]
        clear hlt
        go_wp2_with fail
        go_ret2
        exact ⟨rfl, G.out⟩
  · obtain ⟨E, hE⟩ : ∃ E, E = chkS L := ⟨_, rfl⟩
    obtain rfl : R = (0, E) := by rw [hR, hE]; unfold lnS; rw [if_neg h0]
    have HE := Lib.hid hE
    have hc2 : (E == 0) = false := by rw [hE]; simpa using h0
    clear h h0 hR hE hD
    go_enter Tryd.func28, Tryd.ntmps28
    go_wp2_with fail
    refine (chkr_any A c L w H.out (by omega)).mono ?_
    rintro e w1 ⟨rfl, hb⟩
    rw [← HE.out]
    have HBL := Lib.hid (show Below D w w1 from HD.out ▸ hb)
    clear hb
    go_wp2_with fail
    go_ret2
    exact ⟨rfl, HBL.out⟩
theorem same_any (A : Option Addr) (c : Nat) (A2 : Option Addr) (c2 : Nat) (L : List Spn) (w : World) (h : SpAt w A L) (h2 : SpAt w A2 L) (hl : L.length ≤ 1000000000) :
    Calls Tryd.prog 15 #[.slice A L.length c, .slice A2 L.length c2] w fun e w' => e = .returned (.bool true) ∧ Below w.heap.size w w' := by
  have H := Lib.hid h
  have H2 := Lib.hid h2
  clear h h2
  go_enter Tryd.func15, Tryd.ntmps15
  go_wp2_with fail
  go_loopw [13] (fun i wr => ∃ k : Nat, k ≤ L.length ∧ i = .int .i64 k ∧ Hid (Below w.heap.size w wr)) (fun i _ => L.length - (intOf i).toNat)
  case atStart => exact ⟨0, by omega, rfl, Lib.hid (Below.refl _ _)⟩
  case round =>
    obtain ⟨k, hk, rfl, G⟩ := hrel
    by_cases hlt : k < L.length
    · have hlt2 : (k : Int) < (L.length : Int) := by omega
      obtain ⟨x, hx⟩ : ∃ x, L[k]? = some x := ⟨_, List.getElem?_eq_getElem hlt⟩
      have HR1 := H.out.ext G.out
      have HR2 := H2.out.ext G.out
      obtain ⟨g, o, rfl⟩ := SpAt.some HR1 hx
      obtain ⟨g2, o2, rfl⟩ := SpAt.some HR2 hx
      obtain ⟨q0, q1⟩ := SpAt.get HR1 hx
      obtain ⟨r0, r1⟩ := SpAt.get HR2 hx
      clear HR1 HR2 hx
      go_wp2_with fail
      go_quiet (fail)
      go_wp2_with fail
      go_roundw
      case rel => exact ⟨k + 1, by omega, by go_num, Lib.hid (below_drewN G.out _)⟩
      case measure => simp [intOf]; omega
    · obtain rfl : k = L.length := by omega
      clear hlt
      go_wp2_with fail
      go_ret
      exact ⟨rfl, G.out⟩
theorem few_any (g : Nat) (N : List Nat) (c : Nat) (w : World) (h : ∀ k n, N[k]? = some n → ∃ A c', w.cell? ⟨g, k, none⟩ = some (.slice A n c')) (hl : N.length ≤ 10) :
    Calls Tryd.prog 12 #[.slice (some ⟨g, 0, none⟩) N.length c] w fun e w' => e = .returned (.bool (N.all fun n => decide (n ≤ 800))) ∧ w' = w := by
  have H := Lib.hid h
  obtain ⟨R, hR⟩ : ∃ R, R = (N.all fun n => decide (n ≤ 800)) := ⟨_, rfl⟩
  have HR := Lib.hid hR
  rw [← hR]
  clear h hR
  go_enter Tryd.func12, Tryd.ntmps12
  go_wp2_with fail
  go_loopw [7] (fun i wr => ∃ k : Nat, k ≤ N.length ∧ i = .int .i64 k ∧ Hid (∀ j n, j < k → N[j]? = some n → n ≤ 800) ∧ wr = w) (fun i _ => N.length - (intOf i).toNat)
  case atStart => exact ⟨0, by omega, rfl, Lib.hid (fun j n hj _ => by omega), rfl⟩
  case round =>
    obtain ⟨k, hk, rfl, HK, rfl⟩ := hrel
    by_cases hlt : k < N.length
    · have hlt2 : (k : Int) < (N.length : Int) := by omega
      obtain ⟨n, hn⟩ : ∃ n, N[k]? = some n := ⟨_, List.getElem?_eq_getElem hlt⟩
      obtain ⟨A, c', q⟩ := H.out k n hn
      have HN := Lib.hid hn
      clear hn
      by_cases h8 : 800 < n
      · have h9 : (800 : Int) < (n : Int) := by omega
        obtain rfl : R = false := by
          rw [HR.out, List.all_eq_false]
          exact ⟨n, List.mem_of_getElem? HN.out, by simpa using h8⟩
        go_wp2_with fail
        go_ret
        exact ⟨rfl, rfl⟩
      · have h9 : ¬ ((800 : Int) < (n : Int)) := by omega
        go_wp2_with fail
        go_roundw
        case rel => exact ⟨k + 1, by omega, by go_num, Lib.hid (fun j m hj hm => by
          by_cases hjk : j < k
          · exact HK.out j m hjk hm
          · obtain rfl : j = k := by omega
            rw [HN.out] at hm
            cases hm
            omega), trivial⟩
        case measure => simp [intOf]; omega
    · obtain rfl : k = N.length := by omega
      obtain rfl : R = true := by
        rw [HR.out, List.all_eq_true]
        intro n hn
        obtain ⟨j, hj, e⟩ := List.mem_iff_getElem.1 hn
        have := HK.out j n hj (by rw [List.getElem?_eq_getElem hj, e])
        simpa using this
      clear hlt
      go_wp2_with fail
      go_ret
      exact ⟨rfl, rfl⟩
def awL : List Spn := [⟨5, 9⟩, ⟨2, 5⟩, ⟨7, 7⟩, ⟨20, 21⟩]
def awM : List Spn := [⟨2, 9⟩, ⟨20, 21⟩]
theorem aw1 : norS awL = (awM, 0) := by kernel_rfl
theorem aw2 : txtS awM = ([50, 45, 57, 44, 50, 48, 45, 50, 49], 0) := by kernel_rfl
theorem aw3 : lnS awM = (8, 0) := by kernel_rfl
theorem aw4 : chkS awM = 0 := by kernel_rfl
set_option maxRecDepth 100000 in
set_option maxHeartbeats 1000000 in
theorem awake_any (w : World) (ht : Tab w) : Calls Tryd.prog 11 #[] w fun e w' => e = .returned (.bool true) ∧ Below w.heap.size w w' := by
  obtain ⟨B, hB⟩ : ∃ B, B = w.heap.size := ⟨_, rfl⟩
  have HB := Lib.hid hB
  have HT := Lib.hid (show Lib.TabBelow Tryd.prog B w "internal/strconv.uint64pow10" .u64 Lib.pow10Tab from hB ▸ Lib.tabBelow_of_tabIs ht)
  rw [← hB]
  clear hB ht
  go_enter Tryd.func11, Tryd.ntmps11
  go_wp2_with fail
  have hL : SpAt (w.alloc (.cells #[.int .i64 5, .int .i64 9, .int .i64 2, .int .i64 5, .int .i64 7, .int .i64 7, .int .i64 20, .int .i64 21] 32)) (some ⟨w.heap.size, 0, none⟩) awL :=
    row_of_cells (by simp [CellsAt, go_sem, awL, spV])
  refine (norm_any (some ⟨w.heap.size, 0, none⟩) 4 awL _ hL (by decide)).mono ?_
  rintro e w1 ⟨⟨v, rfl, ho⟩, hb⟩
  rw [aw1] at ho
  rw [aw1]
  obtain ⟨A1, c1, e1, hr1, _⟩ := own_form ho
  subst e1
  have G1 := Lib.hid (show Below B w w1 from HB.out ▸ ((below_one w _).trans (hb.mono (by simp))))
  have H1 := Lib.hid hr1
  clear ho hb hr1 hL
  go_wp2_with fail
  refine (text_any A1 c1 awM w1 H1.out (by decide) ((HT.out.on G1.out).here)).mono ?_
  rintro e w2 ⟨rfl, hb⟩
  rw [aw2, show sB [50, 45, 57, 44, 50, 48, 45, 50, 49] = ⟨#[50, 45, 57, 44, 50, 48, 45, 50, 49]⟩ from rfl]
  have G2 := Lib.hid (G1.out.trans (hb.mono (by have := G1.out.size; have := HB.out; omega)))
  have H2 := Lib.hid (H1.out.ext hb)
  clear hb G1 H1
  go_wp2_with fail
  refine (len_any A1 c1 awM w2 H2.out (by decide)).mono ?_
  rintro e w3 ⟨rfl, hb⟩
  rw [aw3]
  have G3 := Lib.hid (G2.out.trans (hb.mono (by have := G2.out.size; have := HB.out; omega)))
  have H3 := Lib.hid (H2.out.ext hb)
  clear hb G2 H2
  go_wp2_with fail
  refine (chk_any A1 c1 awM w3 H3.out (by decide)).mono ?_
  rintro e w4 ⟨rfl, hb⟩
  rw [aw4]
  have G4 := Lib.hid (G3.out.trans (hb.mono (by have := G3.out.size; have := HB.out; omega)))
  clear hb G3 H3
  go_wp2_with fail
  go_ret
  exact ⟨rfl, G4.out⟩
end Go.Proofs.YtloioincminhiaaDoor
