/-
  The contracts of common and rest. Their conditions are their hypotheses.
-/
import Derived.Test.YtloioincminhiaaDoorG1
namespace Go.Proofs.YtloioincminhiaaDoor
open Go.RowKit Go.Joins
set_option linter.unusedVariables false
set_option linter.unusedSimpArgs false
theorem own_base {w : World} {base : Nat} {e : TypeId} {size : Nat} {v : Value} {n : Nat} {xs : List Value} (h : w.ownsRow base e size v n xs) : ∀ k, v.ownBlock = some k → base ≤ k := by
  intro k hk
  exact (h.lt k hk).1
/-- A call that gives a new list. -/
def NewP (L : List Spn) (W : World) (e : Ending) (w' : World) : Prop := (∃ v, e = .returned v ∧ w'.ownsRow W.heap.size 32 2 v L.length (L.flatMap spV)) ∧ Below W.heap.size W w'
theorem filt_len (s : Spn) (B : List Spn) : ((B.map (cutS s)).filter fun t => decide (t.i < t.o)).length ≤ B.length := by
  have := List.length_filter_le (fun t : Spn => decide (t.i < t.o)) (B.map (cutS s))
  simpa using this
theorem comS_len : ∀ (A B : List Spn), (comS A B).length ≤ A.length * B.length
  | [], B => by simp [comS]
  | s :: A, B => by
    have h1 := comS_len A B
    have h2 := filt_len s B
    show (((B.map (cutS s)).filter fun t => decide (t.i < t.o)) ++ comS A B).length ≤ _
    rw [List.length_append, List.length_cons, Nat.succ_mul]
    omega
theorem comS_step {A B : List Spn} {k : Nat} {x : Spn} (hk : A[k]? = some x) : comS (A.take (k + 1)) B = comS (A.take k) B ++ ((B.map (cutS x)).filter fun t => decide (t.i < t.o)) := by
  unfold comS
  rw [List.take_add_one, hk, List.flatMap_append]
  simp
theorem filt_step {x y : Spn} {B : List Spn} {k : Nat} (hk : B[k]? = some y) : ((B.take (k + 1)).map (cutS x)).filter (fun t => decide (t.i < t.o)) = ((B.take k).map (cutS x)).filter (fun t => decide (t.i < t.o)) ++ (if max x.i y.i < min x.o y.o then [cutS x y] else []) := by
  rw [List.take_add_one, hk, List.map_append, List.filter_append]
  congr 1
  show List.filter _ [cutS x y] = _
  rw [List.filter_cons]
  show (if decide (max x.i y.i < min x.o y.o) = true then _ else _) = _
  by_cases h : max x.i y.i < min x.o y.o <;> simp [h]
set_option maxHeartbeats 2000000 in
theorem common_any (P : Option Addr) (c : Nat) (A : List Spn) (P2 : Option Addr) (c2 : Nat) (B : List Spn) (w : World) (ha : SpAt w P A) (hb : SpAt w P2 B) (hla : A.length ≤ 1000) (hlb : B.length ≤ 1000) :
    Calls Tryd.prog 39 #[.slice P A.length c, .slice P2 B.length c2] w (NewP (comS A B) w) := by
  obtain ⟨i0, hi, hz0, hz1, hz2⟩ := info_parts infoS
  have HI0 := Lib.hid (And.intro hi (And.intro hz0 (And.intro hz1 hz2)))
  clear hi hz0 hz1 hz2
  have HA := Lib.hid ha
  have HB := Lib.hid hb
  obtain ⟨D, hD⟩ : ∃ D, D = w.heap.size := ⟨_, rfl⟩
  have HD := Lib.hid hD
  unfold NewP
  rw [← hD]
  clear ha hb hD
  go_enter Tryd.func39, Tryd.ntmps39
  go_wp2_with fail
  go_loopw [5, 13] (fun ov i wr => ∃ k : Nat, k ≤ A.length ∧ i = .int .i64 k ∧ Hid (wr.ownsRow D 32 2 ov (comS (A.take k) B).length ((comS (A.take k) B).flatMap spV)) ∧ Hid (Below D w wr)) (fun _ i _ => A.length - (intOf i).toNat)
  case atStart => exact ⟨0, by omega, rfl, Lib.hid (World.ownsRow_nil _ _ _ _), Lib.hid (Below.refl _ _)⟩
  case round =>
    obtain ⟨k, hk, rfl, HO, G⟩ := hrel
    have hDw : D ≤ wr.heap.size := by have := G.out.size; have := HD.out; omega
    by_cases hlt : k < A.length
    · have hlt2 : (k : Int) < (A.length : Int) := by omega
      obtain ⟨x, hx⟩ : ∃ x, A[k]? = some x := ⟨_, List.getElem?_eq_getElem hlt⟩
      have HX := Lib.hid hx
      have HRw := HA.out.below (HD.out ▸ G.out) (Nat.le_refl _)
      obtain ⟨g, o, rfl⟩ := SpAt.some HRw hx
      obtain ⟨q0, q1⟩ := SpAt.get HRw hx
      clear HRw hx
      go_wp2_with fail
      clear q0 q1
      generalize hw1 : World.alloc wr _ = w1
      have HF1 := Lib.hid (show Held w1 wr.heap.size [.int .i64 x.i, .int .i64 x.o] by subst hw1; exact Held.new rfl)
      have HO1 := Lib.hid (show w1.ownsRow D 32 2 _ _ _ by subst hw1; exact HO.out.alloc _)
      have G1 := Lib.hid (show Below D w w1 by subst hw1; exact G.out.alloc hDw _)
      have hs1 : wr.heap.size < w1.heap.size := by subst hw1; show _ < (wr.heap.push _).size; simp
      have hn1 := fun e => Nat.lt_irrefl _ (HO.out.lt wr.heap.size e).2
      generalize wr.heap.size = X at *
      have HCL := Lib.hid (comS_len (A.take k) B)
      have HTL := Lib.hid (List.length_take_le k A)
      have HST := Lib.hid (comS_step (B := B) HX.out)
      generalize comS (A.take k) B = C at *
      clear hw1 HO G
      go_loopw [5, 19] (fun ov i wr => ∃ j : Nat, j ≤ B.length ∧ i = .int .i64 j ∧ Hid (wr.ownsRow D 32 2 ov (C ++ ((B.take j).map (cutS x)).filter (fun t => decide (t.i < t.o))).length ((C ++ ((B.take j).map (cutS x)).filter (fun t => decide (t.i < t.o))).flatMap spV)) ∧ Hid (Below D w wr) ∧ Hid (Held wr X [.int .i64 x.i, .int .i64 x.o]) ∧ X < wr.heap.size ∧ ov.ownBlock ≠ some X) (fun _ i _ => B.length - (intOf i).toNat)
      case atStart => exact ⟨0, by omega, rfl, by simpa using HO1, G1, HF1, hs1, hn1⟩
      case round =>
        obtain ⟨j, hj, rfl, HO, G, HF, hsz, hne⟩ := hrel
        have hDw2 : D ≤ wr.heap.size := by have := G.out.size; have := HD.out; omega
        clear HO1 G1 HF1 hs1 hn1
        by_cases hltj : j < B.length
        · have hltj2 : (j : Int) < (B.length : Int) := by omega
          obtain ⟨y, hy⟩ : ∃ y, B[j]? = some y := ⟨_, List.getElem?_eq_getElem hltj⟩
          have HY := Lib.hid hy
          have HRw := HB.out.below (HD.out ▸ G.out) (Nat.le_refl _)
          obtain ⟨g2, o2, rfl⟩ := SpAt.some HRw hy
          obtain ⟨q0, q1⟩ := SpAt.get HRw hy
          obtain ⟨z0, z1⟩ := two_of HF.out
          have hfs := filt_step (x := x) HY.out
          have HFL := Lib.hid (filt_len x (B.take j))
          have HTB := Lib.hid (List.length_take_le j B)
          obtain ⟨p, hp⟩ : ∃ p, p = max x.i y.i := ⟨_, rfl⟩
          obtain ⟨q, hq⟩ : ∃ q, q = min x.o y.o := ⟨_, rfl⟩
          have mx : (if x.i < y.i then y.i else x.i) = p := by rw [hp]; split <;> omega
          have mn : (if y.o < x.o then y.o else x.o) = q := by rw [hq]; split <;> omega
          rw [← hp, ← hq, show cutS x y = (Spn.mk p q) by unfold cutS; rw [← hp, ← hq]] at hfs
          clear HRw hy hp hq
          by_cases hin : p < q
          · rw [if_pos hin] at hfs
            have hb1 := Lib.hid (show (C ++ ((B.take j).map (cutS x)).filter (fun t => decide (t.i < t.o))).length ≤ 2000000 by
              have h1 := HCL.out
              have h2 := HTL.out
              have h3 := HFL.out
              have h4 := HTB.out
              have h5 : (A.take k).length * B.length ≤ 1000 * 1000 := Nat.mul_le_mul (by omega) hlb
              rw [List.length_append]
              omega)
            have HFS := Lib.hid (show C ++ ((B.take (j + 1)).map (cutS x)).filter (fun t => decide (t.i < t.o)) = (C ++ ((B.take j).map (cutS x)).filter (fun t => decide (t.i < t.o))) ++ [Spn.mk p q] by rw [hfs, List.append_assoc])
            clear hfs HFL HTB HCL HTL
            generalize C ++ ((B.take j).map (cutS x)).filter (fun t => decide (t.i < t.o)) = M at *
            go_wp2_with (at_builtin; go_loud (refine wpList_append_lies _ rfl _ _ 22 rfl D 32 i0 (.agg #[.int .i64 0, .int .i64 0]) 2 16 Tryd.underlying22 HI0.out.1 HI0.out.2.1 HI0.out.2.2.1 HI0.out.2.2.2 rfl (by decide) _ M.length (M.flatMap spV) rfl (((HO.out.alloc _).alloc _).alloc _) ⟨wr.heap.size + 1 + 1, 0, none⟩ 1 1 (spV (Spn.mk p q)) rfl rfl (CellsAt.all (by simp [CellsAt, go_sem, spV])) (by simp [Value.oneCell', spV]) (by omega) (by have := hb1.out; simp only [maxLen]; omega) (by have := hb1.out; omega) (by simp; omega) _ rfl ?_))
            intro g' cap' w5 ho hgr hat hlt5
            have G5 := Lib.hid (show Below D w w5 from ((((G.out.alloc hDw2 _).alloc (by simp; omega) _).alloc (by simp; omega) _).grown hgr (by simp; omega) (own_base HO.out)))
            have HO5 := Lib.hid (show w5.ownsRow D 32 2 (.slice (some ⟨g', 0, none⟩) (M.length + 1) cap') (M ++ [Spn.mk p q]).length ((M ++ [Spn.mk p q]).flatMap spV) by
              rw [List.flatMap_append, List.length_append]
              simpa using ho)
            rw [← HFS.out] at HO5
            have HF5 := Lib.hid (show Held w5 X [.int .i64 x.i, .int .i64 x.o] by
              obtain ⟨t, ht⟩ := (((HF.out.alloc (.cells #[.int .i64 y.i, .int .i64 y.o] 32)).alloc (.cells #[.int .i64 p, .int .i64 q] 32)).alloc (.cells #[.int .i64 p, .int .i64 q] 32))
              refine ⟨t, (hgr.block X (by simp; omega) (Ne.symm hne)).trans ht⟩)
            have hne5 : (Value.slice (some ⟨g', 0, none⟩) (M.length + 1) cap').ownBlock ≠ some X := by
              intro e
              have e : g' = X := by simpa [Value.ownBlock] using e
              rcases hat with h | h
              · exact hne (h.trans (congrArg some e))
              · omega
            have hsz5 : X < w5.heap.size := by have := hgr.size; simp at this; omega
            clear ho hgr hat hlt5 hne
            go_wp2_with fail
            go_roundw
            case rel => exact ⟨j + 1, by omega, by go_num, HO5, G5, HF5, hsz5, hne5⟩
            case measure => simp [intOf]; omega
          · rw [if_neg hin, List.append_nil] at hfs
            have HFS := Lib.hid hfs
            clear hfs
            go_wp2_with fail
            rw [← HFS.out] at HO
            go_roundw
            case rel => exact ⟨j + 1, by omega, by go_num, Lib.hid ((HO.out.alloc _).alloc _), Lib.hid ((G.out.alloc hDw2 _).alloc (by simp; omega) _), Lib.hid ((HF.out.alloc _).alloc _), by simp; omega, hne⟩
            case measure => simp [intOf]; omega
        · obtain rfl : j = B.length := by omega
          rw [List.take_length, ← HST.out] at HO
          clear hltj
          go_wp2_with fail
          go_roundw
          case rel => exact ⟨k + 1, by omega, by go_num, HO, G⟩
          case measure => simp [intOf]; omega
    · obtain rfl : k = A.length := by omega
      rw [List.take_length] at HO
      clear hlt
      go_wp2_with fail
      go_ret
      exact ⟨⟨_, rfl, HO.out⟩, G.out⟩
end Go.Proofs.YtloioincminhiaaDoor
