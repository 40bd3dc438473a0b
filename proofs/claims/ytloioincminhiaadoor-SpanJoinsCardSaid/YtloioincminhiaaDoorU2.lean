/-
  The contract of slices.Concat of two lists of spans. Its conditions are its hypotheses.
-/
import Derived.Test.YtloioincminhiaaDoorU1
namespace Go.Proofs.YtloioincminhiaaDoor
open Go.RowKit Go.Joins
set_option linter.unusedVariables false
set_option linter.unusedSimpArgs false
set_option maxHeartbeats 4000000 in
theorem concat_any (g : Nat) (P : Option Addr) (c : Nat) (A : List Spn) (P2 : Option Addr) (c2 : Nat) (B : List Spn) (w : World) (h0 : w.cell? ⟨g, 0, none⟩ = some (.slice P A.length c)) (h1 : w.cell? ⟨g, 1, none⟩ = some (.slice P2 B.length c2))
    (ha : SpAt w P A) (hb : SpAt w P2 B) (hfa : Frm P c) (hfb : Frm P2 c2) (hla : A.length ≤ 1000) (hlb : B.length ≤ 1000) :
    Calls Tryd.prog 43 #[.slice (some ⟨g, 0, none⟩) 2 2] w (NewP (A ++ B) w) := by
  obtain ⟨i0, hi, hz0, hz1, hz2⟩ := info_parts infoS
  have HI0 := Lib.hid (And.intro hi (And.intro hz0 (And.intro hz1 hz2)))
  clear hi hz0 hz1 hz2
  have HA := Lib.hid ha
  have HB := Lib.hid hb
  have C0 := Lib.hid h0
  have C1 := Lib.hid h1
  have hgl := World.block_lt_of_cell? w _ h0
  obtain ⟨D, hD⟩ : ∃ D, D = w.heap.size := ⟨_, rfl⟩
  have HD := Lib.hid hD
  unfold NewP
  rw [← hD] at hgl ⊢
  obtain ⟨n1, hn1⟩ : ∃ n, n = A.length := ⟨_, rfl⟩
  obtain ⟨n2, hn2⟩ : ∃ n, n = B.length := ⟨_, rfl⟩
  rw [← hn1] at h0 hla
  rw [← hn2] at h1 hlb
  have N1 := Lib.hid hn1
  have N2 := Lib.hid hn2
  have w1 : IntKind.i64.wrap (n1 : Int) = (n1 : Int) := by rw [IntKind.wrap_i64]; omega
  have w2 : IntKind.i64.wrap ((n1 : Int) + (n2 : Int)) = (n1 : Int) + (n2 : Int) := by rw [IntKind.wrap_i64]; omega
  clear ha hb hD hn1 hn2
  go_enter Tryd.func43, Tryd.ntmps43
  go_wp2_with fail
  go_loopw [3, 11] (fun s i wr => wr = w ∧ ((s = .int .i64 0 ∧ i = .int .i64 0) ∨ (s = .int .i64 n1 ∧ i = .int .i64 1) ∨ (s = .int .i64 ((n1 : Int) + (n2 : Int)) ∧ i = .int .i64 2))) (fun _ i _ => 2 - (intOf i).toNat)
  case atStart => exact ⟨rfl, .inl ⟨rfl, rfl⟩⟩
  case round =>
    obtain ⟨hw, hc⟩ := hrel
    obtain rfl : w = wr := hw.symm
    clear hw
    rcases hc with ⟨rfl, rfl⟩ | ⟨rfl, rfl⟩ | ⟨rfl, rfl⟩
    · go_wp2_with fail
      go_roundw
      case rel => exact ⟨by trivial, .inr (.inl ⟨by rfl, by rfl⟩)⟩
      case measure => simp [intOf]
    · go_wp2_with fail
      go_roundw
      case rel => exact ⟨by trivial, .inr (.inr ⟨by rfl, by rfl⟩)⟩
      case measure => simp [intOf]
    · go_wp2_with fail
      have hgr := grow_any (n1 + n2) w (by omega)
      rw [show ((n1 + n2 : Nat) : Int) = (n1 : Int) + (n2 : Int) by omega] at hgr
      refine hgr.mono ?_
      clear hgr
      rintro e w3 ⟨⟨v, rfl, ho⟩, hb⟩
      have G3 := Lib.hid (show Below D w w3 from HD.out ▸ hb)
      have HO3 := Lib.hid (show w3.ownsRow D 32 2 v 0 [] from HD.out ▸ ho)
      obtain ⟨A3, c3, e3, _⟩ := row_of_ownK ho
      subst e3
      clear ho hb
      go_wp2_with fail
      go_loopw [6, 27] (fun ov i wr => ∃ uv : Value, uv = ov ∧ Hid (Below D w wr) ∧ ((i = .int .i64 0 ∧ Hid (wr.ownsRow D 32 2 uv 0 [])) ∨ (i = .int .i64 1 ∧ Hid (wr.ownsRow D 32 2 uv n1 (A.flatMap spV))) ∨ (i = .int .i64 2 ∧ Hid (wr.ownsRow D 32 2 uv (n1 + n2) ((A ++ B).flatMap spV))))) (fun _ i _ => 2 - (intOf i).toNat)
      case atStart => exact ⟨_, rfl, G3, .inl ⟨rfl, HO3⟩⟩
      case round =>
        obtain ⟨uv, rfl, G, ⟨rfl, HO⟩ | ⟨rfl, HO⟩ | ⟨rfl, HO⟩⟩ := hrel
        · have hDw : D ≤ wr.heap.size := by have := G.out.size; have := HD.out; omega
          have q0 := (G.out.cell (p := ⟨g, 0, none⟩) hgl).trans h0
          rcases hfa with ⟨rfl, rfl⟩ | ⟨ad, rfl⟩
          · have hA0 := none_nil HA.out
            have hn0 : n1 = 0 := by rw [N1.out, hA0]; rfl
            have HO2 := Lib.hid (show wr.ownsRow D 32 2 uv n1 (A.flatMap spV) by rw [hA0, hn0]; exact HO.out)
            rw [hn0] at q0
            clear hA0 hn0
            go_wp2_with (at_builtin; refine wpList_append_own_none rfl _ _ 22 rfl D 32 i0 2 Tryd.underlying22 HI0.out.1 _ 0 [] rfl HO.out rfl ?_)
            go_roundw
            case rel => exact ⟨_, rfl, G, .inr (.inl ⟨rfl, HO2⟩)⟩
            case measure => simp [intOf]
          · have HAW := Lib.hid (HA.out.ext (HD.out ▸ G.out))
            go_wp2_with (at_builtin; go_loud (refine wpList_append_own _ rfl _ _ 22 rfl D 32 i0 (.agg #[.int .i64 0, .int .i64 0]) 2 16 Tryd.underlying22 HI0.out.1 HI0.out.2.1 HI0.out.2.2.1 HI0.out.2.2.2 rfl (by decide) _ 0 [] rfl HO.out ad n1 c (A.flatMap spV) rfl (by rw [flat_len spV_len, N1.out]) (news_all HAW.out) (spV_flat_one _) (by simp only [maxLen]; omega) (by omega) hDw ?_))
            intro v5 w5 ho hgr _
            have G5 := Lib.hid (show Below D w w5 from G.out.grown hgr hDw (own_base HO.out))
            have HO5 := Lib.hid (show w5.ownsRow D 32 2 v5 n1 (A.flatMap spV) by simpa using ho)
            clear ho hgr
            go_wp2_with fail
            go_roundw
            case rel => exact ⟨_, rfl, G5, .inr (.inl ⟨rfl, HO5⟩)⟩
            case measure => simp [intOf]
        · have hDw : D ≤ wr.heap.size := by have := G.out.size; have := HD.out; omega
          have q1 := (G.out.cell (p := ⟨g, 1, none⟩) hgl).trans h1
          rcases hfb with ⟨rfl, rfl⟩ | ⟨ad, rfl⟩
          · have hB0 := none_nil HB.out
            have hn0 : n2 = 0 := by rw [N2.out, hB0]; rfl
            have HO2 := Lib.hid (show wr.ownsRow D 32 2 uv (n1 + n2) ((A ++ B).flatMap spV) by rw [hB0, hn0, List.append_nil]; exact HO.out)
            rw [hn0] at q1
            clear hB0 hn0
            go_wp2_with (at_builtin; refine wpList_append_own_none rfl _ _ 22 rfl D 32 i0 2 Tryd.underlying22 HI0.out.1 _ _ _ rfl HO.out rfl ?_)
            go_roundw
            case rel => exact ⟨_, rfl, G, .inr (.inr ⟨rfl, HO2⟩)⟩
            case measure => simp [intOf]
          · have HBW := Lib.hid (HB.out.ext (HD.out ▸ G.out))
            go_wp2_with (at_builtin; go_loud (refine wpList_append_own _ rfl _ _ 22 rfl D 32 i0 (.agg #[.int .i64 0, .int .i64 0]) 2 16 Tryd.underlying22 HI0.out.1 HI0.out.2.1 HI0.out.2.2.1 HI0.out.2.2.2 rfl (by decide) _ n1 (A.flatMap spV) rfl HO.out ad n2 c2 (B.flatMap spV) rfl (by rw [flat_len spV_len, N2.out]) (news_all HBW.out) (spV_flat_one _) (by simp only [maxLen]; omega) (by omega) hDw ?_))
            intro v5 w5 ho hgr _
            have G5 := Lib.hid (show Below D w w5 from G.out.grown hgr hDw (own_base HO.out))
            have HO5 := Lib.hid (show w5.ownsRow D 32 2 v5 (n1 + n2) ((A ++ B).flatMap spV) by rw [List.flatMap_append]; exact ho)
            clear ho hgr
            go_wp2_with fail
            go_roundw
            case rel => exact ⟨_, rfl, G5, .inr (.inr ⟨rfl, HO5⟩)⟩
            case measure => simp [intOf]
        · have HO2 := Lib.hid (show wr.ownsRow D 32 2 _ (A ++ B).length ((A ++ B).flatMap spV) by rw [List.length_append, ← N1.out, ← N2.out]; exact HO.out)
          go_wp2_with fail
          go_ret
          exact ⟨⟨_, rfl, HO2.out⟩, G.out⟩
end Go.Proofs.YtloioincminhiaaDoor
