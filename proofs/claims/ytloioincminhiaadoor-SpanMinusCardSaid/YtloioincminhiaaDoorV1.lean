/-
  The contracts of Union and Intersect in the reference. Their conditions are their hypotheses.
-/
import Derived.Test.YtloioincminhiaaDoorU3
import Derived.Test.YtloioincminhiaaDoorM2
namespace Go.Proofs.YtloioincminhiaaDoor
open Go.RowKit Go.Joins
set_option linter.unusedVariables false
set_option linter.unusedSimpArgs false
def crsS (A B : List Spn) : List Spn := A.flatMap fun s => B.map (cutS s)
theorem crs_len : ∀ (A B : List Spn), (crsS A B).length ≤ A.length * B.length
  | [], B => by simp [crsS]
  | s :: A, B => by
    have h1 := crs_len A B
    show ((B.map (cutS s)) ++ crsS A B).length ≤ _
    rw [List.length_append, List.length_cons, Nat.succ_mul, List.length_map]
    omega
theorem crs_step {A B : List Spn} {k : Nat} {x : Spn} (hk : A[k]? = some x) : crsS (A.take (k + 1)) B = crsS (A.take k) B ++ B.map (cutS x) := by
  unfold crsS
  rw [List.take_add_one, hk, List.flatMap_append]
  simp
theorem mp_len (s : Spn) (B : List Spn) : (B.map (cutS s)).length ≤ B.length := by simp
theorem mp_step {x y : Spn} {B : List Spn} {k : Nat} (hk : B[k]? = some y) : (B.take (k + 1)).map (cutS x) = (B.take k).map (cutS x) ++ [cutS x y] := by
  rw [List.take_add_one, hk, List.map_append]
  rfl
set_option maxHeartbeats 2000000 in
theorem unir_any (P : Option Addr) (c : Nat) (A : List Spn) (P2 : Option Addr) (c2 : Nat) (B : List Spn) (w : World) (ha : SpAt w P A) (hb : SpAt w P2 B) (hla : A.length ≤ 900) (hlb : B.length ≤ 900) (hfa : Frm P c) (hfb : Frm P2 c2) :
    Calls Tryd.prog 24 #[.slice P A.length c, .slice P2 B.length c2] w (RetP (uniS A B) w) := by
  have HA := Lib.hid ha
  have HB := Lib.hid hb
  obtain ⟨D, hD⟩ : ∃ D, D = w.heap.size := ⟨_, rfl⟩
  have HD := Lib.hid hD
  unfold RetP
  rw [← hD]
  obtain ⟨R, hR⟩ : ∃ R, R = uniS A B := ⟨_, rfl⟩
  rw [← hR]
  cases hc : decide (twoS A B = 0) with
  | true =>
    have hc0 : twoS A B = 0 := by simpa using hc
    have hr2 : R = limS (joinS (A ++ B)) := by rw [hR]; unfold uniS; rw [if_pos hc0]
    have HR := Lib.hid hr2
    have HC := Lib.hid hc0
    clear ha hb hD hR hc hc0 hr2
    go_enter Tryd.func24, Tryd.ntmps24
    go_wp2_with fail
    refine (twor_any P c A P2 c2 B w HA.out HB.out (by omega) (by omega)).mono ?_
    rintro e w1 ⟨rfl, hb⟩
    rw [HC.out]
    have G1 := Lib.hid (show Below D w w1 from HD.out ▸ hb)
    have A1 := Lib.hid (HA.out.ext hb)
    have B1 := Lib.hid (HB.out.ext hb)
    have hs1 : D ≤ w1.heap.size := by have := hb.size; have := HD.out; omega
    clear hb
    obtain ⟨i0, hi, hz0, hz1, hz2⟩ := info_parts infoS
    have HI0 := Lib.hid (And.intro hi (And.intro hz0 (And.intro hz1 hz2)))
    clear hi hz0 hz1 hz2
    obtain ⟨X, hX⟩ : ∃ X, X = A ++ B := ⟨_, rfl⟩
    have hXl : X.length ≤ 1000000 := by rw [hX, List.length_append]; omega
    have HXX := Lib.hid hX
    have be := Lib.hid (below_one w1 (.cells #[] 32))
    have hs2 : D ≤ (w1.alloc (.cells #[] 32)).heap.size := by simp; omega
    clear hX
    rcases hfa with ⟨rfl, rfl⟩ | ⟨ad, rfl⟩
    · have hA0 := none_nil A1.out
      subst hA0
      rcases hfb with ⟨rfl, rfl⟩ | ⟨ad2, rfl⟩
      · have hB0 := none_nil B1.out
        subst hB0
        go_wp2_with (at_builtin; refine wpList_append_own_none rfl _ _ 22 rfl D 32 i0 2 Tryd.underlying22 HI0.out.1 _ 0 [] rfl (own_empty w1 D hs1) rfl ?_)
        have G2 := Lib.hid (G1.out.alloc hs1 (.cells #[] 32))
        refine (join_any (some ⟨w1.heap.size, 0, none⟩) 0 [] _ (RowAt.nil _ _) (by simp)).mono ?_
        rintro e w3 ⟨⟨v, rfl, ho⟩, hb⟩
        obtain ⟨A3, c3, e3, _⟩ := own_form ho
        subst e3
        have HO := Lib.hid (show w3.ownsRow D 32 2 _ (joinS ([] ++ [])).length ((joinS ([] ++ [])).flatMap spV) from ownsRow_mono ho hs2)
        have G3 := Lib.hid (G2.out.trans (hb.mono hs2))
        clear ho hb
        go_wp2_with fail
        refine (limr_any D _ _ w3 HO.out).mono ?_
        rintro e w4 ⟨v', rfl, ho, rfl⟩
        rw [← HR.out] at ho ⊢
        go_wp2_with fail
        go_ret2
        exact ⟨⟨_, rfl, ho⟩, G3.out⟩
      · go_wp2_with (first | (at_builtin; refine wpList_append_own_none rfl _ _ 22 rfl D 32 i0 2 Tryd.underlying22 HI0.out.1 _ 0 [] rfl (own_empty w1 D hs1) rfl ?_) | (at_builtin; go_loud (refine wpList_append_own _ rfl _ _ 22 rfl D 32 i0 (.agg #[.int .i64 0, .int .i64 0]) 2 16 Tryd.underlying22 HI0.out.1 HI0.out.2.1 HI0.out.2.2.1 HI0.out.2.2.2 rfl (by decide) _ 0 [] rfl (own_empty w1 D hs1) ad2 B.length c2 (B.flatMap spV) rfl (by rw [flat_len spV_len]) (news_all (B1.out.ext be.out)) (spV_flat_one _) (by simp only [maxLen]; omega) (by omega) hs2 ?_)))
        intro v5 w5 ho hgr _
        have G2 := Lib.hid (show Below D w w5 from (G1.out.alloc hs1 _).grown hgr hs2 (fun k e => by cases e; exact hs1))
        have HX := Lib.hid (show w5.ownsRow D 32 2 v5 X.length (X.flatMap spV) by rw [HXX.out]; simpa using ho)
        have hs5 : D ≤ w5.heap.size := by have := G2.out.size; have := HD.out; omega
        clear ho hgr
        obtain ⟨A4, c4, e4, hr4, _⟩ := own_form HX.out
        subst e4
        have R4 := Lib.hid hr4
        clear hr4
        go_wp2_with fail
        refine (join_any A4 c4 X w5 R4.out hXl).mono ?_
        rintro e w3 ⟨⟨v, rfl, ho⟩, hb⟩
        rw [HXX.out] at ho
        obtain ⟨A3, c3, e3, _⟩ := own_form ho
        subst e3
        have HO := Lib.hid (show w3.ownsRow D 32 2 _ (joinS ([] ++ B)).length ((joinS ([] ++ B)).flatMap spV) from ownsRow_mono ho hs5)
        have G3 := Lib.hid (G2.out.trans (hb.mono hs5))
        clear ho hb
        go_wp2_with fail
        refine (limr_any D _ _ w3 HO.out).mono ?_
        rintro e w4 ⟨v', rfl, ho, rfl⟩
        rw [← HR.out] at ho ⊢
        go_wp2_with fail
        go_ret2
        exact ⟨⟨_, rfl, ho⟩, G3.out⟩
    · rcases hfb with ⟨rfl, rfl⟩ | ⟨ad2, rfl⟩
      · have hB0 := none_nil B1.out
        subst hB0
        go_wp2_with (at_builtin; go_loud (refine wpList_append_own _ rfl _ _ 22 rfl D 32 i0 (.agg #[.int .i64 0, .int .i64 0]) 2 16 Tryd.underlying22 HI0.out.1 HI0.out.2.1 HI0.out.2.2.1 HI0.out.2.2.2 rfl (by decide) _ 0 [] rfl (own_empty w1 D hs1) ad A.length c (A.flatMap spV) rfl (by rw [flat_len spV_len]) (news_all (A1.out.ext be.out)) (spV_flat_one _) (by simp only [maxLen]; omega) (by omega) hs2 ?_))
        intro v5 w5 ho hgr _
        have G2 := Lib.hid (show Below D w w5 from (G1.out.alloc hs1 _).grown hgr hs2 (fun k e => by cases e; exact hs1))
        have HX := Lib.hid (show w5.ownsRow D 32 2 v5 X.length (X.flatMap spV) by rw [HXX.out]; simpa using ho)
        have hs5 : D ≤ w5.heap.size := by have := G2.out.size; have := HD.out; omega
        clear ho hgr
        go_wp2_with (at_builtin; refine wpList_append_own_none rfl _ _ 22 rfl D 32 i0 2 Tryd.underlying22 HI0.out.1 _ _ _ rfl HX.out rfl ?_)
        obtain ⟨A4, c4, e4, hr4, _⟩ := own_form HX.out
        subst e4
        have R4 := Lib.hid hr4
        clear hr4
        go_wp2_with fail
        refine (join_any A4 c4 X w5 R4.out hXl).mono ?_
        rintro e w3 ⟨⟨v, rfl, ho⟩, hb⟩
        rw [HXX.out, List.append_nil] at ho
        obtain ⟨A3, c3, e3, _⟩ := own_form ho
        subst e3
        have HO := Lib.hid (show w3.ownsRow D 32 2 _ (joinS A).length ((joinS A).flatMap spV) from ownsRow_mono ho hs5)
        have G3 := Lib.hid (G2.out.trans (hb.mono hs5))
        clear ho hb
        go_wp2_with fail
        refine (limr_any D _ _ w3 HO.out).mono ?_
        rintro e w4 ⟨v', rfl, ho, rfl⟩
        have HR := Lib.hid (show R = limS (joinS A) by rw [HR.out, List.append_nil])
        rw [← HR.out] at ho ⊢
        go_wp2_with fail
        go_ret2
        exact ⟨⟨_, rfl, ho⟩, G3.out⟩
      · go_wp2_with (at_builtin; go_loud (refine wpList_append_own _ rfl _ _ 22 rfl D 32 i0 (.agg #[.int .i64 0, .int .i64 0]) 2 16 Tryd.underlying22 HI0.out.1 HI0.out.2.1 HI0.out.2.2.1 HI0.out.2.2.2 rfl (by decide) _ 0 [] rfl (own_empty w1 D hs1) ad A.length c (A.flatMap spV) rfl (by rw [flat_len spV_len]) (news_all (A1.out.ext be.out)) (spV_flat_one _) (by simp only [maxLen]; omega) (by omega) hs2 ?_))
        intro v5 w5 ho hgr _
        have G2 := Lib.hid (show Below D w w5 from (G1.out.alloc hs1 _).grown hgr hs2 (fun k e => by cases e; exact hs1))
        have HY := Lib.hid (show w5.ownsRow D 32 2 v5 A.length (A.flatMap spV) by simpa using ho)
        have hs5 : D ≤ w5.heap.size := by have := G2.out.size; have := HD.out; omega
        have B5 := Lib.hid (HB.out.ext (HD.out ▸ G2.out))
        clear ho hgr
        go_wp2_with (at_builtin; go_loud (refine wpList_append_own _ rfl _ _ 22 rfl D 32 i0 (.agg #[.int .i64 0, .int .i64 0]) 2 16 Tryd.underlying22 HI0.out.1 HI0.out.2.1 HI0.out.2.2.1 HI0.out.2.2.2 rfl (by decide) _ A.length (A.flatMap spV) rfl HY.out ad2 B.length c2 (B.flatMap spV) rfl (by rw [flat_len spV_len]) (news_all (B5.out)) (spV_flat_one _) (by simp only [maxLen]; omega) (by omega) hs5 ?_))
        intro v6 w6 ho hgr _
        have G2 := Lib.hid (show Below D w w6 from G2.out.grown hgr hs5 (own_base HY.out))
        have HX := Lib.hid (show w6.ownsRow D 32 2 v6 X.length (X.flatMap spV) by rw [HXX.out, List.length_append, List.flatMap_append]; exact ho)
        have hs6 : D ≤ w6.heap.size := by have := G2.out.size; have := HD.out; omega
        clear ho hgr
        obtain ⟨A4, c4, e4, hr4, _⟩ := own_form HX.out
        subst e4
        have R4 := Lib.hid hr4
        clear hr4
        go_wp2_with fail
        refine (join_any A4 c4 X w6 R4.out hXl).mono ?_
        rintro e w3 ⟨⟨v, rfl, ho⟩, hb⟩
        rw [HXX.out] at ho
        obtain ⟨A3, c3, e3, _⟩ := own_form ho
        subst e3
        have HO := Lib.hid (show w3.ownsRow D 32 2 _ (joinS (A ++ B)).length ((joinS (A ++ B)).flatMap spV) from ownsRow_mono ho hs6)
        have G3 := Lib.hid (G2.out.trans (hb.mono hs6))
        clear ho hb
        go_wp2_with fail
        refine (limr_any D _ _ w3 HO.out).mono ?_
        rintro e w4 ⟨v', rfl, ho, rfl⟩
        rw [← HR.out] at ho ⊢
        go_wp2_with fail
        go_ret2
        exact ⟨⟨_, rfl, ho⟩, G3.out⟩
  | false =>
    have hc0 : ¬ (twoS A B = 0) := by simpa using hc
    obtain ⟨E, hE⟩ : ∃ E, E = twoS A B := ⟨_, rfl⟩
    obtain rfl : R = ([], E) := by rw [hR, hE]; unfold uniS; rw [if_neg hc0]
    have HE := Lib.hid hE
    have hc2 : (E == 0) = false := by rw [hE]; simpa using hc0
    clear ha hb hD hR hc hc0 hE
    go_enter Tryd.func24, Tryd.ntmps24
    go_wp2_with fail
    refine (twor_any P c A P2 c2 B w HA.out HB.out (by omega) (by omega)).mono ?_
    rintro e w1 ⟨rfl, hb⟩
    rw [← HE.out]
    have G1 := Lib.hid (show Below D w w1 from HD.out ▸ hb)
    clear hb
    go_wp2_with fail
    go_ret2
    exact ⟨⟨_, rfl, World.ownsRow_nil _ _ _ _⟩, G1.out⟩
end Go.Proofs.YtloioincminhiaaDoor
