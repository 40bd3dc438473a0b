/-
  The contracts of Renew and of Release. Their conditions are their hypotheses.
-/
import Derived.Test.YtneiljaknmeagaaGreatDoorM4
import Derived.Test.YtneiljaknmeagaaGreatDoorK7
namespace Go.Proofs.YtneiljaknmeagaaGreatDoor
open Go.RowKit Go.Joins
set_option linter.unusedVariables false
set_option linter.unusedSimpArgs false
theorem own_cell {w : World} {B g n cap : Nat} {e : TypeId} {size : Nat} {xs : List Value} (h : w.ownsRow B e size (.slice (some ⟨g, 0, none⟩) n cap) n xs) (i : Nat) (u : Value) (hi : i < xs.length) :
    (w.setCell ⟨g, i, none⟩ u).ownsRow B e size (.slice (some ⟨g, 0, none⟩) n cap) n (xs.set i u) := by
  obtain ⟨hl, h⟩ := h
  rcases h with ⟨h, _⟩ | ⟨g', cap', cur, hv, h1, h2, h3, h4, h5, h6⟩
  · cases h
  · cases hv
    refine ⟨by rw [List.length_set, hl], .inr ⟨g, cap, cur.setIfInBounds i u, rfl, h1, by rw [block_setCell h2 u], h3, h4, by simpa using h5, ?_⟩⟩
    rw [Array.toList_setIfInBounds, List.take_set, h6]
theorem lsV_set3 (u : Int) : ∀ (L : List Ls) (k : Nat) (x : Ls), L[k]? = some x → (L.flatMap lsV).set (k * 4 + 3) (.int .i64 u) = (L.set k ⟨x.reel, x.ses, x.fen, u⟩).flatMap lsV
  | [], k, x, h => by simp at h
  | y :: r, 0, x, h => by
    simp at h
    subst h
    rfl
  | y :: r, k + 1, x, h => by
    have ih := lsV_set3 u r k x (by simpa using h)
    rw [List.set_cons_succ, List.flatMap_cons, List.flatMap_cons, ← ih, List.set_append_right _ _ (by rw [lsV_len]; omega), lsV_len]
    congr 2
    omega
theorem FrT.putL {B p : Nat} {sv lv s1 l1 : Value} {w w1 : World} {g : Nat} (h : FrT B p sv lv w s1 l1 w1) (hl : l1.ownBlock = some g) (hB : B ≤ g) (i : Nat) (u : Value) : FrT B p sv lv w s1 l1 (w1.setCell ⟨g, i, none⟩ u) := by
  refine ⟨h.below.setCell (p := ⟨g, i, none⟩) hB u, fun g' hg hgp hs hlg => ?_, h.news, h.newl⟩
  refine (Below.heap_setCell w1 ⟨g, i, none⟩ u g' ?_).trans (h.kept g' hg hgp hs hlg)
  show g' ≠ g
  rintro rfl
  rcases h.newl g' hl with e | e
  · exact hlg e
  · omega
def renewT (T : Tb) (now ses : Int) (reel : List UInt8) (fen : Int) : Tb :=
  if heldE T now ses reel fen = 0 then { toldT T now with lea := (toldT T now).lea.set (heldK T now ses reel fen) ⟨reel, ses, fen, now + 600⟩ } else toldT T now
theorem heldE_zero {T : Tb} {now ses : Int} {reel : List UInt8} {fen : Int} (h : heldE T now ses reel fen = 0) :
    toldE T now = 0 ∧ ∃ x, (toldT T now).lea[heldK T now ses reel fen]? = some x ∧ x.reel = reel ∧ x.ses = ses ∧ x.fen = fen := by
  unfold heldE at h
  split at h
  · rename_i h0
    refine ⟨h0, ?_⟩
    split at h
    · rename_i h1
      cases hh : heldI (toldT T now) ses reel fen with
      | none => rw [hh] at h1; cases h1
      | some k =>
        have := heldI_get hh
        unfold heldK
        rw [if_pos h0, hh]
        exact this
    · cases h
  · rename_i h0
    exact absurd h h0
set_option maxHeartbeats 1000000 in
theorem renew_any (B p : Nat) (sv lv : Value) (T : Tb) (now ses : Int) (reel : List UInt8) (fen : Int) (w : World) (h : Rep B p sv lv T w) (hasc : Asc T.lea) (hl : T.lea.length ≤ 1000) :
    Calls Tryz.prog 40 #[.pointer (some ⟨p, 0, none⟩), .int .i64 now, .int .i64 ses, .string (sB reel), .int .i64 fen] w (Met B p sv lv w (.int .i64 (heldE T now ses reel fen)) (renewT T now ses reel fen)) := by
  have HH := Lib.hid (held_any B p sv lv T now ses reel fen w h hasc hl)
  have HZ := Lib.hid (fun h => heldE_zero (T := T) (now := now) (ses := ses) (reel := reel) (fen := fen) h)
  have HT0 := Lib.hid (fun h => toldE_zero (T := T) (now := now) h)
  obtain ⟨hul, _⟩ := toldT_len T now
  have hBp := h.ge
  unfold renewT
  generalize heldE T now ses reel fen = E at *
  generalize heldK T now ses reel fen = k at *
  generalize toldT T now = U at *
  have hul2 : U.lea.length ≤ 1000 := by omega
  clear h hasc hl hul
  by_cases hE : E = 0
  · obtain ⟨h0, x, hx, hxr, hxs, hxf⟩ := HZ.out hE
    obtain ⟨hn0, hn1, _⟩ := HT0.out h0
    have t1 : (E == 0) = true := by simpa using hE
    rw [if_pos hE]
    have hkl := (List.getElem?_eq_some_iff.1 hx).1
    have hkl2 : (k : Int) < (U.lea.length : Int) := by omega
    have HX := Lib.hid hx
    have HXX := Lib.hid (And.intro hxr (And.intro hxs hxf))
    clear hE h0 hx hxr hxs hxf HZ HT0
    go_enter Tryz.func40, Tryz.ntmps40
    go_wp2_with fail
    refine HH.out.mono ?_
    clear HH
    rintro e w1 ⟨rfl, sv1, lv1, h1, f1⟩
    obtain ⟨g, cap, rfl, hgB, hgw⟩ := h1.2.2.2.form (by omega)
    have H1 := Lib.hid h1
    have F1 := Lib.hid f1
    have q := h1.block.cell
    have hpw := h1.lt
    have HL := Lib.hid (show LeasAt w1 (some ⟨g, 0, none⟩) U.lea by
      obtain ⟨LA', lc', e', hr', _⟩ := row_of_ownK h1.2.2.2
      cases e'
      exact hr')
    obtain ⟨x0, x1, x2, x3⟩ := LeasAt.get HL.out HX.out
    rw [Nat.zero_add] at x0 x1 x2 x3
    have y3 : w1.frozen? ⟨g, k * 4 + 3, none⟩ = false := by
      obtain ⟨cur, hc⟩ := own_block h1.2.2.2 (g := g) rfl
      exact unfrozen_of_block hc _
    clear h1 f1
    go_wp2_with fail
    go_ret
    refine ⟨rfl, _, _, ?_, F1.out.putL (g := g) rfl hgB (k * 4 + 3) (.int .i64 (now + 600))⟩
    have hne : p ≠ g := fun e => H1.out.nel (by rw [e]; rfl)
    refine ⟨H1.out.1, (Below.heap_setCell w1 ⟨g, k * 4 + 3, none⟩ _ p hne).trans H1.out.2.1, own_put H1.out.2.2.1 (fun e => H1.out.apart e rfl) _ _, ?_⟩
    have := own_cell H1.out.2.2.2 (k * 4 + 3) (.int .i64 (now + 600)) (by rw [flat_len lsV_len]; omega)
    rw [lsV_set3 (now + 600) U.lea k x HX.out, HXX.out.1, HXX.out.2.1, HXX.out.2.2] at this
    simpa using this
  · have t1 : (E == 0) = false := by simpa using hE
    rw [if_neg hE]
    clear hE
    go_enter Tryz.func40, Tryz.ntmps40
    go_wp2_with fail
    refine HH.out.mono ?_
    clear HH
    rintro e w1 ⟨rfl, sv1, lv1, h1, f1⟩
    have H1 := Lib.hid h1
    have F1 := Lib.hid f1
    clear h1 f1
    go_wp2_with fail
    go_ret
    exact ⟨rfl, _, _, H1.out, F1.out⟩
def releaseT (T : Tb) (now ses : Int) (reel : List UInt8) (fen : Int) : Tb :=
  if heldE T now ses reel fen = 0 then { toldT T now with lea := (toldT T now).lea.eraseIdx (heldK T now ses reel fen) } else toldT T now
set_option maxHeartbeats 1000000 in
theorem release_any (B p : Nat) (sv lv : Value) (T : Tb) (now ses : Int) (reel : List UInt8) (fen : Int) (w : World) (h : Rep B p sv lv T w) (hasc : Asc T.lea) (hl : T.lea.length ≤ 1000) :
    Calls Tryz.prog 42 #[.pointer (some ⟨p, 0, none⟩), .int .i64 now, .int .i64 ses, .string (sB reel), .int .i64 fen] w (Met B p sv lv w (.int .i64 (heldE T now ses reel fen)) (releaseT T now ses reel fen)) := by
  have HH := Lib.hid (held_any B p sv lv T now ses reel fen w h hasc hl)
  have HZ := Lib.hid (fun h => heldE_zero (T := T) (now := now) (ses := ses) (reel := reel) (fen := fen) h)
  obtain ⟨hul, _⟩ := toldT_len T now
  have hBp := h.ge
  unfold releaseT
  generalize heldE T now ses reel fen = E at *
  generalize heldK T now ses reel fen = k at *
  generalize toldT T now = U at *
  have hul2 : U.lea.length ≤ 1000 := by omega
  clear h hasc hl hul
  by_cases hE : E = 0
  · obtain ⟨h0, x, hx, hxr, hxs, hxf⟩ := HZ.out hE
    have t1 : (E == 0) = true := by simpa using hE
    rw [if_pos hE]
    have hkl := (List.getElem?_eq_some_iff.1 hx).1
    clear hE h0 hx hxr hxs hxf HZ
    go_enter Tryz.func42, Tryz.ntmps42
    go_wp2_with fail
    refine HH.out.mono ?_
    clear HH
    rintro e w1 ⟨rfl, sv1, lv1, h1, f1⟩
    have H1 := Lib.hid h1
    have F1 := Lib.hid f1
    have q := h1.block.cell
    have hpw := h1.lt
    clear h1 f1
    go_wp2_with fail
    refine (delL_any B lv1 U.lea k w1 H1.out.2.2.2 hkl hul2).mono ?_
    rintro e w2 ⟨v2, rfl, hown, hgr, hat⟩
    have hne : lv1.ownBlock ≠ some p := H1.out.nel
    have hp2 := (hgr.block p hpw (Ne.symm hne)).trans H1.out.2.1
    have H2 := Lib.hid (Rep.setL (T := U) (L := U.lea.eraseIdx k) H1.out.1 hp2 (own_same H1.out.2.2.1 (fun g hg => hgr.block g (H1.out.2.2.1.lt g hg).2 (fun e => H1.out.apart hg e.symm))) hown)
    have F2 := Lib.hid (((F1.out.grown hgr (by omega) (own_base H1.out.2.2.2) (.inr (.inl rfl))).newL (l2 := v2) (fun g hg => by
      rcases hat g hg with e | e
      · exact .inl e
      · exact .inr (Nat.le_trans F1.out.below.size e))).put hBp 4 v2)
    have HW := Lib.hid hp2
    have q2 : ∀ i, w2.cell? ⟨p, i, none⟩ = ([.int .i64 U.now, .int .i64 U.ls, .int .i64 U.lf, sv1, lv1] : List Value)[i]? := fun i => by rw [cell_of_block hp2 i]; simp
    have y2 : ∀ i, w2.frozen? ⟨p, i, none⟩ = false := fun i => unfrozen_of_block hp2 i
    have hpw2 : p < w2.heap.size := Nat.lt_of_lt_of_le hpw hgr.size
    obtain ⟨A2, c2, rfl, _⟩ := row_of_ownK hown
    clear hown hgr hat hp2 q hne
    go_wp2_with fail
    go_ret
    exact ⟨rfl, _, _, H2.out, F2.out⟩
  · have t1 : (E == 0) = false := by simpa using hE
    rw [if_neg hE]
    clear hE
    go_enter Tryz.func42, Tryz.ntmps42
    go_wp2_with fail
    refine HH.out.mono ?_
    clear HH
    rintro e w1 ⟨rfl, sv1, lv1, h1, f1⟩
    have H1 := Lib.hid h1
    have F1 := Lib.hid f1
    clear h1 f1
    go_wp2_with fail
    go_ret
    exact ⟨rfl, _, _, H1.out, F1.out⟩
end Go.Proofs.YtneiljaknmeagaaGreatDoor
