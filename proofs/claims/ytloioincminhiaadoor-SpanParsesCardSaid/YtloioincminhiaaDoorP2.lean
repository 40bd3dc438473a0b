/-
  The contract of Parse. Its conditions are its hypotheses.
-/
import Derived.Test.YtloioincminhiaaDoorP1
import Derived.Lib.SplitLaws
namespace Go.Proofs.YtloioincminhiaaDoor
open Go.RowKit Go.Joins
set_option linter.unusedVariables false
set_option linter.unusedSimpArgs false
abbrev Ev (g : Nat) (w : World) : Prop := ∃ ev, w.cell? ⟨g, 0, none⟩ = some ev ∧ (ev = .nilIface ∨ ∃ te pe, ev = .iface te pe)
structure Wd (w : World) : Prop where
  tab : Tab w
  mx : ∃ m, w.cell? ⟨1, 0, none⟩ = some (.int .i64 m)
  es : Ev 2 w
  er : Ev 3 w
theorem Wd.on {w w' : World} (h : Wd w) (hb : Below w.heap.size w w') : Wd w' := by
  obtain ⟨h1, ⟨m, h2⟩, ⟨e1, h3, h3'⟩, ⟨e2, h4, h4'⟩⟩ := h
  exact ⟨h1.on hb, ⟨m, (hb.cell (World.block_lt_of_cell? w _ h2)).trans h2⟩, ⟨e1, (hb.cell (World.block_lt_of_cell? w _ h3)).trans h3, h3'⟩, ⟨e2, (hb.cell (World.block_lt_of_cell? w _ h4)).trans h4, h4'⟩⟩
/-- What ParseInt finds. -/
def PintP (l : List UInt8) (B : Nat) (W : World) (e : Ending) (w' : World) : Prop := (∃ v ev, e = .returned (.tuple #[.int .i64 v, ev]) ∧ ((okI (Lib.parseIntB 64 l) = some v ∧ ev = .nilIface) ∨ (okI (Lib.parseIntB 64 l) = none ∧ ∃ tp p, ev = .iface tp p))) ∧ Below B W w'
theorem pint_any (s : List UInt8) (w : World) (hs : s.length ≤ 100000) (hw : Wd w) :
    Calls Tryd.prog 49 #[.string (sB s), .int .i64 10, .int .i64 64] w (PintP s w.heap.size w) := by
  have hsz : (sB s).size ≤ 100000 := by rw [sB_size]; exact hs
  rcases hp : Lib.parseIntB 64 (sB s).data.toList with v | _ | _
  · refine (Tryd.strconv_ParseInt_10_at64_ok (sB s) (by omega) v hp w).mono ?_
    rintro e w' ⟨rfl, hw'⟩
    refine ⟨⟨v, .nilIface, rfl, .inl ⟨?_, rfl⟩⟩, ?_⟩
    · rw [sB_list] at hp
      rw [hp]
      rfl
    · rcases hw' with rfl | ⟨t, rfl⟩
      · exact Below.refl _ _
      · exact Go.Joins.below_bytesWorld _ w _ t (Nat.le_refl _)
  · obtain ⟨ev, h1, h2⟩ := hw.es
    refine (Tryd.strconv_ParseInt_10_at64_syntax (sB s) (by omega) hp ev w h1 h2).mono ?_
    rintro e w' ⟨N, rfl, _, _, hb⟩
    refine ⟨⟨0, _, rfl, .inr ⟨?_, _, _, rfl⟩⟩, hb⟩
    rw [sB_list] at hp
    rw [hp]
    rfl
  · obtain ⟨ev, h1, h2⟩ := hw.er
    refine (Tryd.strconv_ParseInt_10_at64_range (sB s) (by omega) hp ev w h1 h2).mono ?_
    rintro e w' ⟨N, rfl, _, _, hb⟩
    refine ⟨⟨_, _, rfl, .inr ⟨?_, _, _, rfl⟩⟩, hb⟩
    rw [sB_list] at hp
    rw [hp]
    rfl
theorem cut_any (s : List UInt8) (w : World) (hs : s.length ≤ 100000) (hw : Wd w) :
    Calls Tryd.prog 48 #[.string (sB s), .string ⟨#[45]⟩] w fun e w' => e = .returned (.tuple #[.string (sB (cutC 45 s).1), .string (sB (cutC 45 s).2), .bool (decide (45 ∈ s))]) ∧ Below w.heap.size w w' := by
  obtain ⟨m, hm⟩ := hw.mx
  have := Tryd.strings_Cut (sB s) ⟨#[45]⟩ m w (by rw [sB_size]; omega) hm
  rw [show (⟨#[45]⟩ : ByteArray).data.toList = [45] from rfl, sB_list, lib_cut] at this
  refine this.mono ?_
  rintro e w' ⟨he, n, rfl⟩
  exact ⟨he, below_drewN (Below.refl _ _) n⟩
theorem cutC_len (c : UInt8) : ∀ l : List UInt8, (cutC c l).1.length ≤ l.length ∧ (cutC c l).2.length ≤ l.length
  | [] => ⟨Nat.le_refl _, Nat.le_refl _⟩
  | b :: r => by
    have := cutC_len c r
    rw [cutC]
    split
    · simp
    · simp; omega
def linesB (s : ByteArray) : List ByteArray := Lib.splitB ⟨#[44]⟩ 0 (Lib.countB s ⟨#[44]⟩) s
theorem linesB_len (s : ByteArray) : (linesB s).length = Lib.countB s ⟨#[44]⟩ + 1 := Lib.splitB_all ⟨#[44]⟩ (by decide) 0 _ s rfl
theorem linesB_le (s : ByteArray) : (linesB s).length ≤ s.size + 1 := by
  rw [linesB_len]
  have := Lib.countB_le ⟨#[44]⟩ (by decide) s.size s (Nat.le_refl _)
  omega
theorem words_le (c : UInt8) : ∀ (s w : List UInt8), w ∈ wordsC c s → w.length ≤ s.length
  | [], w, h => by
    have : wordsC c [] = [[]] := rfl
    rw [this] at h
    simp at h
    rw [h]
    exact Nat.le_refl _
  | b :: r, w, h => by
    rw [wordsC] at h
    split at h
    · rcases List.mem_cons.1 h with rfl | h
      · simp
      · have := words_le c r w h
        simp
        omega
    · have hall := fun u hu => words_le c r u hu
      generalize wordsC c r = ws at *
      cases ws with
      | nil => simp [addW] at h; rw [h]; simp
      | cons u us =>
        simp [addW] at h
        rcases h with rfl | h
        · have := hall u (List.mem_cons_self ..)
          simp
          omega
        · have := hall w (List.mem_cons_of_mem _ h)
          simp
          omega
theorem split_any (s : List UInt8) (w : World) (hs : s.length ≤ 100000) (hw : Wd w) :
    Calls Tryd.prog 47 #[.string (sB s), .string ⟨#[44]⟩] w fun e w' => e = .returned (.slice (some ⟨w.heap.size, 0, none⟩) (wordsC 44 s).length (wordsC 44 s).length) ∧ w' = w.alloc (.cells ((wordsC 44 s).map fun x => Value.string (sB x)).toArray 9) := by
  obtain ⟨m, hm⟩ := hw.mx
  have h1 := Any.strings_Split { Tryd.laysM146 with } Tryd.laysM146.i9 (sB s) ⟨#[44]⟩ m w (by rw [sB_size]; omega) hm (by decide)
  have e1 : (linesB (sB s)).map (·.data.toList) = wordsC 44 s := by
    have := split_wordsC 44 (sB s)
    rw [sB_list] at this
    exact this
  have e2 : (wordsC 44 s).length = (linesB (sB s)).length := by rw [← e1, List.length_map]
  have e3 : ((wordsC 44 s).map fun x => Value.string (sB x)) = (linesB (sB s)).map Value.string := by
    rw [← e1, List.map_map]
    apply List.map_congr_left
    intro x hx
    show Value.string (sB x.data.toList) = _
    rw [sB_of]
  rw [e2, e3, linesB_len]
  exact h1
theorem wdsA_step {C : List Spn} {W : List (List UInt8)} {k : Nat} {u : List UInt8} (hk : W[k]? = some u) : wdsA C (W.drop k) = (match wdV u with | some x => wdsA (C ++ [x]) (W.drop (k + 1)) | none => none) := by
  obtain ⟨h, e⟩ := List.getElem?_eq_some_iff.1 hk
  rw [List.drop_eq_getElem_cons h, e]
  rfl
set_option maxRecDepth 100000 in
set_option maxHeartbeats 4000000 in
theorem parse_any (S : List UInt8) (w : World) (hs : S.length ≤ 100000) (hw : Wd w) :
    Calls Tryd.prog 31 #[.string (sB S)] w (RetP (prsV S) w) := by
  have HW := Lib.hid hw
  obtain ⟨D, hD⟩ : ∃ D, D = w.heap.size := ⟨_, rfl⟩
  have HD := Lib.hid hD
  unfold RetP
  rw [← hD]
  obtain ⟨R, hR⟩ : ∃ R, R = prsV S := ⟨_, rfl⟩
  rw [← hR]
  by_cases h45 : S = [45]
  · obtain rfl : R = ([], 0) := by rw [hR, h45]; rfl
    have heq : sB S = ⟨#[45]⟩ := by rw [h45]; rfl
    rw [heq]
    clear hw hD hR h45 heq
    go_enter Tryd.func31, Tryd.ntmps31
    go_wp2_with fail
    go_ret2
    exact ⟨⟨_, rfl, World.ownsRow_nil _ _ _ _⟩, Below.refl _ _⟩
  · have hne : ¬ ((sB S).toList = [45]) := by
      rw [Lib.toList_data, sB_list]
      exact h45
    have hne2 : ((sB S).toList == [45]) = false := by rw [beq_eq_false_iff_ne]; exact hne
    obtain ⟨i0, hi, hz0, hz1, hz2⟩ := info_parts infoS
    have HI0 := Lib.hid (And.intro hi (And.intro hz0 (And.intro hz1 hz2)))
    obtain ⟨Ls, hLs⟩ : ∃ Ls, Ls = wordsC 44 S := ⟨_, rfl⟩
    have HSP := Lib.hid (fun W (h : Wd W) => split_any S W hs h)
    rw [← hLs] at HSP
    have HWL := Lib.hid (show ∀ u ∈ Ls, u.length ≤ 100000 from fun u hu => by have := words_le 44 S u (hLs ▸ hu); omega)
    have HLL := Lib.hid (show Ls.length ≤ 100001 by
      have h1 := linesB_le (sB S)
      have h2 := split_wordsC 44 (sB S)
      rw [sB_list] at h2
      have h3 := congrArg List.length h2
      rw [List.length_map] at h3
      rw [hLs, ← h3]
      rw [sB_size] at h1
      exact Nat.le_trans h1 (by omega))
    have HR := Lib.hid (show R = (match wdsA [] (Ls.drop 0) with | some L => if (txtS L).2 = 0 ∧ (txtS L).1 = S then (L, 0) else ([], 4) | none => ([], 4)) by rw [hR, hLs]; unfold prsV; rw [if_neg h45]; rfl)
    clear hw hD hR hi hz0 hz1 hz2 h45 hLs
    go_enter Tryd.func31, Tryd.ntmps31
    go_wp2_with fail
    refine (HSP.out w HW.out).mono ?_
    rintro e w1 ⟨rfl, hw1⟩
    rw [← HD.out]
    have HLH := Lib.hid (show Held w1 D (Ls.map fun x => Value.string (sB x)) by rw [hw1]; exact Held.new HD.out)
    have G1 := Lib.hid (show Below D w w1 by rw [hw1, HD.out]; exact below_one _ _)
    obtain ⟨N, hN⟩ : ∃ N, N = w1.heap.size := ⟨_, rfl⟩
    have HN := Lib.hid hN
    have hDN : D < N := by rw [hN]; exact HLH.out.lt
    have W1 := Lib.hid (HW.out.on (HD.out ▸ G1.out))
    clear hw1 hN HSP
    go_wp2_with fail
    go_loopw [4, 21] (fun ov i wr => ∃ (k : Nat) (uv : Value) (C : List Spn), uv = ov ∧ k ≤ Ls.length ∧ C.length = k ∧ i = .int .i64 k ∧ Hid (wr.ownsRow N 32 2 uv C.length (C.flatMap spV)) ∧ Hid (R = (match wdsA C (Ls.drop k) with | some L => if (txtS L).2 = 0 ∧ (txtS L).1 = S then (L, 0) else ([], 4) | none => ([], 4))) ∧ Hid (Below N w1 wr)) (fun _ i _ => Ls.length - (intOf i).toNat)
    case atStart => exact ⟨0, _, [], rfl, by omega, rfl, rfl, Lib.hid (World.ownsRow_nil _ _ _ _), HR, Lib.hid (Below.refl _ _)⟩
    case round =>
      obtain ⟨k, uv, C, rfl, hk, hck, rfl, HO, HC, G⟩ := hrel
      have hNw : N ≤ wr.heap.size := by have := G.out.size; have := HN.out; omega
      have hll := HLL.out
      by_cases hlt : k < Ls.length
      · have hlt2 : (k : Int) < (Ls.length : Int) := by omega
        obtain ⟨u, hu⟩ : ∃ u, Ls[k]? = some u := ⟨_, List.getElem?_eq_getElem hlt⟩
        have ck : wr.cell? ⟨D, k, none⟩ = some (.string (sB u)) := by
          rw [(HLH.out.ext (HN.out ▸ G.out)).cell k, List.getElem?_map, hu]
          rfl
        have HU := Lib.hid (HWL.out u (List.mem_of_getElem? hu))
        have hst := HC.out.trans (by rw [wdsA_step hu])
        have HST := Lib.hid hst
        have WR := Lib.hid (W1.out.on (HN.out ▸ G.out))
        have hc1 := cutC_len 45 u
        have HA := Lib.hid (Nat.le_trans hc1.1 HU.out)
        have HB := Lib.hid (Nat.le_trans hc1.2 HU.out)
        clear hu hst hc1
        go_wp2_with fail
        refine (cut_any u wr HU.out WR.out).mono ?_
        rintro e w2 ⟨rfl, hb⟩
        have G2 := Lib.hid (G.out.trans (hb.mono hNw))
        have WR2 := Lib.hid (WR.out.on hb)
        have HO2 := Lib.hid (ownsRow_below (B := wr.heap.size) HO.out hb (Nat.le_refl _))
        have hN2 : N ≤ w2.heap.size := by have := G2.out.size; have := HN.out; omega
        clear hb
        have HVV := Lib.hid (show wdV u = (match okI (Lib.parseIntB 64 (cutC 45 u).1), okI (Lib.parseIntB 64 (cutC 45 u).2) with | some a, some b => some (Spn.mk a b) | _, _ => none) from rfl)
        generalize (cutC 45 u).1 = ua at *
        generalize (cutC 45 u).2 = ub at *
        go_wp2_with fail
        refine (pint_any ua w2 HA.out WR2.out).mono ?_
        rintro e w3 ⟨⟨v1, ev1, rfl, hm1⟩, hb⟩
        have G3 := Lib.hid (G2.out.trans (hb.mono hN2))
        have WR3 := Lib.hid (WR2.out.on hb)
        have HO3 := Lib.hid (ownsRow_below (B := w2.heap.size) HO2.out hb (Nat.le_refl _))
        have hN3 : N ≤ w3.heap.size := by have := G3.out.size; have := HN.out; omega
        have HM1 := Lib.hid hm1
        clear hb hm1
        go_wp2_with fail
        refine (pint_any ub w3 HB.out WR3.out).mono ?_
        rintro e w4 ⟨⟨v2, ev2, rfl, hm2⟩, hb⟩
        have G4 := Lib.hid (G3.out.trans (hb.mono hN3))
        have HO4 := Lib.hid (ownsRow_below (B := w3.heap.size) HO3.out hb (Nat.le_refl _))
        have hN4 : N ≤ w4.heap.size := by have := G4.out.size; have := HN.out; omega
        have HG4 := Lib.hid (show Below D w w4 from G1.out.trans (G4.out.mono (by omega)))
        clear hb
        rcases HM1.out with ⟨o1, rfl⟩ | ⟨o1, t1, p1, rfl⟩
        · rcases hm2 with ⟨o2, rfl⟩ | ⟨o2, t2, p2, rfl⟩
          · have hwd : wdV u = some ⟨v1, v2⟩ := by rw [HVV.out, o1, o2]
            have HC2 := Lib.hid (show R = (match wdsA (C ++ [Spn.mk v1 v2]) (Ls.drop (k + 1)) with | some L => if (txtS L).2 = 0 ∧ (txtS L).1 = S then (L, 0) else ([], 4) | none => ([], 4)) by rw [HST.out, hwd])
            have HCK := Lib.hid hck
            have hclb : C.length ≤ 100001 := by omega
            clear o1 o2 hwd ck HM1 hck
            go_wp2_with (at_builtin; go_loud (refine wpList_append_lies _ rfl _ _ 22 rfl N 32 i0 (.agg #[.int .i64 0, .int .i64 0]) 2 16 Tryd.underlying22 HI0.out.1 HI0.out.2.1 HI0.out.2.2.1 HI0.out.2.2.2 rfl (by decide) _ C.length (C.flatMap spV) rfl (HO4.out.alloc _) ⟨w4.heap.size, 0, none⟩ 1 1 (spV (Spn.mk v1 v2)) rfl rfl (CellsAt.all (by simp [CellsAt, go_sem, spV])) (by simp [Value.oneCell', spV]) (by omega) (by simp only [maxLen]; omega) (by omega) (by simp; omega) _ rfl ?_))
            intro g' cap' w5 ho hgr hat hlt5
            have G5 := Lib.hid (show Below N w1 w5 from (G4.out.alloc hN4 _).grown hgr (by simp; omega) (own_base HO4.out))
            have HO5 := Lib.hid (show w5.ownsRow N 32 2 (.slice (some ⟨g', 0, none⟩) (C.length + 1) cap') (C ++ [Spn.mk v1 v2]).length ((C ++ [Spn.mk v1 v2]).flatMap spV) by
              rw [flat_snoc, List.length_append]
              simpa using ho)
            clear ho hgr hat hlt5
            go_wp2_with fail
            go_roundw
            case rel => exact ⟨k + 1, _, _, rfl, by omega, by have := HCK.out; simp; omega, by go_num, HO5, HC2, G5⟩
            case measure => simp [intOf]; omega
          · have hwd : wdV u = none := by rw [HVV.out, o1, o2]
            obtain rfl : R = ([], 4) := by rw [HST.out, hwd]
            clear o1 o2 hwd ck HM1
            go_wp2_with fail
            go_ret2
            exact ⟨⟨_, rfl, World.ownsRow_nil _ _ _ _⟩, HG4.out⟩
        · have hwd : wdV u = none := by rw [HVV.out, o1]
          obtain rfl : R = ([], 4) := by rw [HST.out, hwd]
          clear o1 hwd ck hm2 HM1
          go_wp2_with fail
          go_ret2
          exact ⟨⟨_, rfl, World.ownsRow_nil _ _ _ _⟩, HG4.out⟩
      · obtain rfl : k = Ls.length := by omega
        have hst := HC.out
        rw [List.drop_length] at hst
        have HST := Lib.hid (show R = if (txtS C).2 = 0 ∧ (txtS C).1 = S then (C, 0) else ([], 4) from hst)
        obtain ⟨A4, c4, e4, hr4, _⟩ := own_form HO.out
        subst e4
        have HR4 := Lib.hid hr4
        have HG := Lib.hid (show Below D w wr from G1.out.trans (G.out.mono (by omega)))
        have hDw : D ≤ wr.heap.size := by omega
        have hcl := Lib.hid (show C.length ≤ 1000000 by omega)
        clear hst hr4 hlt hck hll hk
        go_wp2_with fail
        refine (text_any A4 c4 C wr HR4.out hcl.out (W1.out.on (HN.out ▸ G.out)).tab).mono ?_
        rintro e w5 ⟨rfl, hb⟩
        have G5 := Lib.hid (HG.out.trans (hb.mono hDw))
        have HO5 := Lib.hid (show w5.ownsRow D 32 2 (.slice A4 C.length c4) C.length (C.flatMap spV) from ownsRow_mono (ownsRow_below (B := wr.heap.size) HO.out hb (Nat.le_refl _)) (by omega))
        clear hb
        by_cases z1 : (txtS C).2 = 0
        · have z2 : ((txtS C).2 == 0) = true := by rw [z1]; rfl
          by_cases z3 : (txtS C).1 = S
          · obtain rfl : R = (C, 0) := by rw [HST.out, if_pos ⟨z1, z3⟩]
            rw [z1, z3]
            have z4 : ((sB S).toList == (sB S).toList) = true := by simp
            clear z1 z2 z3
            go_wp2_with fail
            go_ret2
            exact ⟨⟨_, rfl, HO5.out⟩, G5.out⟩
          · obtain rfl : R = ([], 4) := by rw [HST.out, if_neg (fun h => z3 h.2)]
            have z4 : ((sB (txtS C).1).toList == (sB S).toList) = false := by
              rw [beq_eq_false_iff_ne, Lib.toList_data, Lib.toList_data, sB_list, sB_list]
              exact z3
            rw [z1]
            generalize (txtS C).1 = TT at *
            clear z1 z2 z3
            go_wp2_with fail
            go_ret2
            exact ⟨⟨_, rfl, World.ownsRow_nil _ _ _ _⟩, G5.out⟩
        · obtain rfl : R = ([], 4) := by rw [HST.out, if_neg (fun h => z1 h.1)]
          have z2 : ((txtS C).2 == 0) = false := by simpa using z1
          generalize (txtS C).2 = TE at *
          generalize (txtS C).1 = TT at *
          go_wp2_with fail
          go_ret2
          exact ⟨⟨_, rfl, World.ownsRow_nil _ _ _ _⟩, G5.out⟩
end Go.Proofs.YtloioincminhiaaDoor
