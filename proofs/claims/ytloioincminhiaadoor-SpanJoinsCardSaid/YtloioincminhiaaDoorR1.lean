/-
  The contract of rest. Its conditions are its hypotheses.
-/
import Derived.Test.YtloioincminhiaaDoorN1
namespace Go.Proofs.YtloioincminhiaaDoor
open Go.RowKit Go.Joins
set_option linter.unusedVariables false
set_option linter.unusedSimpArgs false
theorem rst_len : ∀ (top a : Int) (L : List Spn), (rstS top a L).length ≤ L.length + 1
  | top, a, [] => by simp [rstS]
  | top, a, s :: L => by
    have := rst_len top s.o L
    unfold rstS
    split <;> simp <;> omega
theorem rst_step {top a : Int} {L : List Spn} {k : Nat} {x : Spn} (hk : L[k]? = some x) : rstS top a (L.drop k) = (if a < x.i then [Spn.mk a x.i] else []) ++ rstS top x.o (L.drop (k + 1)) := by
  obtain ⟨h, e⟩ := List.getElem?_eq_some_iff.1 hk
  rw [List.drop_eq_getElem_cons h, e]
  show (if a < x.i then ⟨a, x.i⟩ :: rstS top x.o (L.drop (k + 1)) else rstS top x.o (L.drop (k + 1))) = _
  split <;> rfl
set_option maxHeartbeats 2000000 in
theorem rest_any (P : Option Addr) (c : Nat) (L : List Spn) (w : World) (ha : SpAt w P L) (hl : L.length ≤ 100000) :
    Calls Tryd.prog 40 #[.slice P L.length c] w (NewP (rstS (mT + 1) 0 L) w) := by
  obtain ⟨i0, hi, hz0, hz1, hz2⟩ := info_parts infoS
  have HI0 := Lib.hid (And.intro hi (And.intro hz0 (And.intro hz1 hz2)))
  clear hi hz0 hz1 hz2
  have HA := Lib.hid ha
  obtain ⟨D, hD⟩ : ∃ D, D = w.heap.size := ⟨_, rfl⟩
  have HD := Lib.hid hD
  unfold NewP
  rw [← hD]
  obtain ⟨R, hR⟩ : ∃ R, R = rstS 10378368001 0 L := ⟨_, rfl⟩
  have HRL := Lib.hid (show R.length ≤ 100001 by rw [hR]; have := rst_len 10378368001 0 L; omega)
  have HR := Lib.hid (show ([] : List Spn) ++ rstS 10378368001 0 (L.drop 0) = R from hR.symm)
  rw [show rstS (mT + 1) 0 L = R from hR.symm]
  clear ha hD hR
  go_enter Tryd.func40, Tryd.ntmps40
  go_wp2_with fail
  go_loopw [3, 4, 9] (fun ov a i wr => ∃ (k : Nat) (z : Int) (C : List Spn), k ≤ L.length ∧ i = .int .i64 k ∧ a = .int .i64 z ∧ Hid (wr.ownsRow D 32 2 ov C.length (C.flatMap spV)) ∧ Hid (C ++ rstS 10378368001 z (L.drop k) = R) ∧ Hid (Below D w wr)) (fun _ _ i _ => L.length - (intOf i).toNat)
  case atStart => exact ⟨0, 0, [], by omega, rfl, rfl, Lib.hid (World.ownsRow_nil _ _ _ _), HR, Lib.hid (Below.refl _ _)⟩
  case round =>
    obtain ⟨k, z, C, hk, rfl, rfl, HO, HC, G⟩ := hrel
    have hDw : D ≤ wr.heap.size := by have := G.out.size; have := HD.out; omega
    have hcl := Lib.hid (show C.length ≤ 100001 by have h1 := congrArg List.length HC.out; have h2 := HRL.out; rw [List.length_append] at h1; omega)
    by_cases hlt : k < L.length
    · have hlt2 : (k : Int) < (L.length : Int) := by omega
      obtain ⟨x, hx⟩ : ∃ x, L[k]? = some x := ⟨_, List.getElem?_eq_getElem hlt⟩
      have HRw := HA.out.ext (HD.out ▸ G.out)
      obtain ⟨g, o, rfl⟩ := SpAt.some HRw hx
      obtain ⟨q0, q1⟩ := SpAt.get HRw hx
      have hst := rst_step (top := 10378368001) (a := z) hx
      clear HRw hx
      by_cases hz : z < x.i
      · rw [if_pos hz] at hst
        have HC2 := Lib.hid (show (C ++ [Spn.mk z x.i]) ++ rstS 10378368001 x.o (L.drop (k + 1)) = R by rw [List.append_assoc, ← hst]; exact HC.out)
        clear hst
        go_wp2_with (at_builtin; go_loud (refine wpList_append_lies _ rfl _ _ 22 rfl D 32 i0 (.agg #[.int .i64 0, .int .i64 0]) 2 16 Tryd.underlying22 HI0.out.1 HI0.out.2.1 HI0.out.2.2.1 HI0.out.2.2.2 rfl (by decide) _ C.length (C.flatMap spV) rfl ((HO.out.alloc _).alloc _) ⟨wr.heap.size + 1, 0, none⟩ 1 1 (spV (Spn.mk z x.i)) rfl rfl (CellsAt.all (by simp [CellsAt, go_sem, spV])) (by simp [Value.oneCell', spV]) (by omega) (by have := hcl.out; simp only [maxLen]; omega) (by have := hcl.out; omega) (by simp; omega) _ rfl ?_))
        intro g' cap' w5 ho hgr hat hlt5
        have G5 := Lib.hid (show Below D w w5 from (((G.out.alloc hDw _).alloc (by simp; omega) _).grown hgr (by simp; omega) (own_base HO.out)))
        have HO5 := Lib.hid (show w5.ownsRow D 32 2 (.slice (some ⟨g', 0, none⟩) (C.length + 1) cap') (C ++ [Spn.mk z x.i]).length ((C ++ [Spn.mk z x.i]).flatMap spV) by
          rw [List.flatMap_append, List.length_append]
          simpa using ho)
        have z1 : w5.cell? ⟨wr.heap.size, 1, none⟩ = some (.int .i64 x.o) := by
          have hne := fun e => Nat.lt_irrefl _ (HO.out.lt wr.heap.size e).2
          refine (hgr.cell_far _ (by simp; omega) (fun e => hne e.symm)).trans ?_
          simp [go_sem]
        clear ho hgr hat hlt5 q0 q1
        go_wp2_with fail
        go_roundw
        case rel => exact ⟨k + 1, x.o, _, by omega, by go_num, rfl, HO5, HC2, G5⟩
        case measure => simp [intOf]; omega
      · rw [if_neg hz, List.nil_append] at hst
        have HC2 := Lib.hid (show C ++ rstS 10378368001 x.o (L.drop (k + 1)) = R by rw [← hst]; exact HC.out)
        clear hst
        go_wp2_with fail
        go_roundw
        case rel => exact ⟨k + 1, x.o, C, by omega, by go_num, rfl, Lib.hid (HO.out.alloc _), HC2, Lib.hid (G.out.alloc hDw _)⟩
        case measure => simp [intOf]; omega
    · obtain rfl : k = L.length := by omega
      have HC2 := Lib.hid (show R = C ++ [Spn.mk z 10378368001] by have := HC.out; rw [List.drop_length] at this; exact this.symm)
      clear hlt
      go_wp2_with (at_builtin; go_loud (refine wpList_append_lies _ rfl _ _ 22 rfl D 32 i0 (.agg #[.int .i64 0, .int .i64 0]) 2 16 Tryd.underlying22 HI0.out.1 HI0.out.2.1 HI0.out.2.2.1 HI0.out.2.2.2 rfl (by decide) _ C.length (C.flatMap spV) rfl (HO.out.alloc _) ⟨wr.heap.size, 0, none⟩ 1 1 (spV (Spn.mk z 10378368001)) rfl rfl (CellsAt.all (by simp [CellsAt, go_sem, spV])) (by simp [Value.oneCell', spV]) (by omega) (by have := hcl.out; simp only [maxLen]; omega) (by have := hcl.out; omega) (by simp; omega) _ rfl ?_))
      intro g' cap' w5 ho hgr hat hlt5
      have G5 := Lib.hid (show Below D w w5 from ((G.out.alloc hDw _).grown hgr (by simp; omega) (own_base HO.out)))
      have HO5 := Lib.hid (show w5.ownsRow D 32 2 (.slice (some ⟨g', 0, none⟩) (C.length + 1) cap') R.length (R.flatMap spV) by
        rw [HC2.out, List.flatMap_append, List.length_append]
        simpa using ho)
      clear ho hgr hat hlt5
      go_wp2_with fail
      go_ret
      exact ⟨⟨_, rfl, HO5.out⟩, G5.out⟩
end Go.Proofs.YtloioincminhiaaDoor
