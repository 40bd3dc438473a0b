/-
  The contract of Holder. Its conditions are its hypotheses.
-/
import Derived.Test.YtneiljaknmeagaaGreatDoorM5
namespace Go.Proofs.YtneiljaknmeagaaGreatDoor
open Go.RowKit Go.Joins
set_option linter.unusedVariables false
set_option linter.unusedSimpArgs false
def ls0 : Ls := ⟨[], 0, 0, 0⟩
/-- The lease of a reel. -/
def holdV (T : Tb) (now : Int) (reel : List UInt8) : Ls × Bool :=
  if fhas reel T.lea = true then
    (match T.lea[fpos reel T.lea]? with
      | some x => if x.unt ≤ now then (ls0, false) else (x, true)
      | none => (ls0, false))
  else (ls0, false)
def HoldP (r : Ls × Bool) (w : World) (e : Ending) (w' : World) : Prop := e = .returned (.tuple #[lsA r.1, .bool r.2]) ∧ Below w.heap.size w w'
set_option maxRecDepth 100000 in
set_option maxHeartbeats 1000000 in
theorem holder_any (B p : Nat) (sv lv : Value) (T : Tb) (now : Int) (reel : List UInt8) (w : World) (h : Rep B p sv lv T w) (hasc : Asc T.lea) (hl : T.lea.length ≤ 1000) :
    Calls Tryz.prog 18 #[.pointer (some ⟨p, 0, none⟩), .int .i64 now, .string (sB reel)] w (HoldP (holdV T now reel) w) := by
  have H := Lib.hid h
  have HASC := Lib.hid hasc
  have hpw0 := h.lt
  obtain ⟨D, hD⟩ : ∃ D, D = w.heap.size := ⟨_, rfl⟩
  unfold HoldP
  rw [← hD]
  have HD := Lib.hid hD
  have hpD : p < D := by omega
  clear h hasc
  unfold holdV
  by_cases hh : fhas reel T.lea = true
  · rw [if_pos hh]
    have HHAS := Lib.hid hh
    obtain ⟨x, hx, hxr⟩ := fhas_some hh
    have hkl := (List.getElem?_eq_some_iff.1 hx).1
    have hkl2 : (fpos reel T.lea : Int) < (T.lea.length : Int) := by omega
    rw [hx]
    simp only []
    obtain ⟨k, hk⟩ : ∃ k, fpos reel T.lea = k := ⟨_, rfl⟩
    have HPOS := Lib.hid hk
    rw [hk] at hx hkl hkl2
    have HX := Lib.hid hx
    clear hh hk hx hxr
    by_cases hu : x.unt ≤ now
    · rw [if_pos hu]
      clear hD
      go_enter Tryz.func18, Tryz.ntmps18
      go_wp2_with fail
      rw [← HD.out]
      generalize hw1 : World.alloc _ _ = w1
      have HB := Lib.hid (show Held w1 D [.string ⟨#[]⟩, .int .i64 0, .int .i64 0, .int .i64 0] by subst hw1; exact Held.new HD.out)
      have G := Lib.hid (show Below D w w1 by subst hw1; rw [HD.out]; exact below_one _ _)
      clear hw1
      have H1 := Lib.hid (H.out.ext (HD.out ▸ G.out))
      refine (find_any B p _ _ T reel w1 H1.out HASC.out (by omega)).mono ?_
      rintro e w2 ⟨rfl, hb⟩
      have H2 := Lib.hid (H1.out.ext hb)
      have HB2 := Lib.hid (HB.out.ext hb)
      have G2 := Lib.hid (G.out.trans (hb.mono (Nat.le_of_lt HB.out.lt)))
      clear hb H1 HB G
      rw [HPOS.out, HHAS.out]
      have q := H2.out.block.cell
      have hpw := H2.out.lt
      have q2 := HB2.out.cell
      have y2 := HB2.out.free
      have hDw := HB2.out.lt
      obtain ⟨LA, lc, hlv, hlr, hlc, hlm, hfl⟩ := row_of_ownK H2.out.2.2.2
      subst hlv
      obtain ⟨gx, ox, rfl⟩ := LeasAt.some hlr HX.out
      obtain ⟨x0, x1, x2, x3⟩ := LeasAt.get hlr HX.out
      clear hfl hlr hlm
      go_wp2_with (with_reducible refine stop_at ?_)
      unfold StopAt
      have r := Lib.hid ((((HB2.out.set 0 (.string ⟨#[]⟩)).set 1 (.int .i64 0)).set 2 (.int .i64 0)).set 3 (.int .i64 0))
      have rb := Lib.hid ((((G2.out.setCell (p := ⟨D, 0, none⟩) (by simp) (.string ⟨#[]⟩)).setCell (p := ⟨D, 1, none⟩) (by simp) (.int .i64 0)).setCell (p := ⟨D, 2, none⟩) (by simp) (.int .i64 0)).setCell (p := ⟨D, 3, none⟩) (by simp) (.int .i64 0))
      generalize World.setCell _ _ _ = w9 at *
      have rc := r.out.cell
      simp only [List.set_cons_zero, List.set_cons_succ] at rc
      clear q q2 y2
      refine bodyPost_ret (v := .tuple #[lsA ls0, .bool false]) (by simp [results, Tryz.results18, rc, go_sem, lsA, ls0, sB]; try rfl) rfl ?_
      exact ⟨rfl, rb.out⟩
    · rw [if_neg hu]
      clear hD
      go_enter Tryz.func18, Tryz.ntmps18
      go_wp2_with fail
      rw [← HD.out]
      generalize hw1 : World.alloc _ _ = w1
      have HB := Lib.hid (show Held w1 D [.string ⟨#[]⟩, .int .i64 0, .int .i64 0, .int .i64 0] by subst hw1; exact Held.new HD.out)
      have G := Lib.hid (show Below D w w1 by subst hw1; rw [HD.out]; exact below_one _ _)
      clear hw1
      have H1 := Lib.hid (H.out.ext (HD.out ▸ G.out))
      refine (find_any B p _ _ T reel w1 H1.out HASC.out (by omega)).mono ?_
      rintro e w2 ⟨rfl, hb⟩
      have H2 := Lib.hid (H1.out.ext hb)
      have HB2 := Lib.hid (HB.out.ext hb)
      have G2 := Lib.hid (G.out.trans (hb.mono (Nat.le_of_lt HB.out.lt)))
      clear hb H1 HB G
      rw [HPOS.out, HHAS.out]
      have q := H2.out.block.cell
      have hpw := H2.out.lt
      have q2 := HB2.out.cell
      have y2 := HB2.out.free
      have hDw := HB2.out.lt
      obtain ⟨LA, lc, hlv, hlr, hlc, hlm, hfl⟩ := row_of_ownK H2.out.2.2.2
      subst hlv
      obtain ⟨gx, ox, rfl⟩ := LeasAt.some hlr HX.out
      obtain ⟨x0, x1, x2, x3⟩ := LeasAt.get hlr HX.out
      clear hfl hlr hlm
      go_wp2_with (with_reducible refine stop_at ?_)
      unfold StopAt
      have r := Lib.hid ((((HB2.out.set 0 (.string (sB x.reel))).set 1 (.int .i64 x.ses)).set 2 (.int .i64 x.fen)).set 3 (.int .i64 x.unt))
      have rb := Lib.hid ((((G2.out.setCell (p := ⟨D, 0, none⟩) (by simp) (.string (sB x.reel))).setCell (p := ⟨D, 1, none⟩) (by simp) (.int .i64 x.ses)).setCell (p := ⟨D, 2, none⟩) (by simp) (.int .i64 x.fen)).setCell (p := ⟨D, 3, none⟩) (by simp) (.int .i64 x.unt))
      generalize World.setCell _ _ _ = w9 at *
      have rc := r.out.cell
      simp only [List.set_cons_zero, List.set_cons_succ] at rc
      clear q q2 y2
      refine bodyPost_ret (v := .tuple #[lsA x, .bool true]) (by simp [results, Tryz.results18, rc, go_sem, lsA, ls0, sB]; try rfl) rfl ?_
      exact ⟨rfl, rb.out⟩
  · rw [if_neg hh]
    have HHAS := Lib.hid (show fhas reel T.lea = false by simpa using hh)
    obtain ⟨k, hk⟩ : ∃ k, fpos reel T.lea = k := ⟨_, rfl⟩
    have HPOS := Lib.hid hk
    clear hh hk
    clear hD
    go_enter Tryz.func18, Tryz.ntmps18
    go_wp2_with fail
    rw [← HD.out]
    generalize hw1 : World.alloc _ _ = w1
    have HB := Lib.hid (show Held w1 D [.string ⟨#[]⟩, .int .i64 0, .int .i64 0, .int .i64 0] by subst hw1; exact Held.new HD.out)
    have G := Lib.hid (show Below D w w1 by subst hw1; rw [HD.out]; exact below_one _ _)
    clear hw1
    have H1 := Lib.hid (H.out.ext (HD.out ▸ G.out))
    refine (find_any B p _ _ T reel w1 H1.out HASC.out (by omega)).mono ?_
    rintro e w2 ⟨rfl, hb⟩
    have H2 := Lib.hid (H1.out.ext hb)
    have HB2 := Lib.hid (HB.out.ext hb)
    have G2 := Lib.hid (G.out.trans (hb.mono (Nat.le_of_lt HB.out.lt)))
    clear hb H1 HB G
    rw [HPOS.out, HHAS.out]
    have q := H2.out.block.cell
    have hpw := H2.out.lt
    have q2 := HB2.out.cell
    have y2 := HB2.out.free
    have hDw := HB2.out.lt
    go_wp2_with (with_reducible refine stop_at ?_)
    unfold StopAt
    have r := Lib.hid ((((HB2.out.set 0 (.string ⟨#[]⟩)).set 1 (.int .i64 0)).set 2 (.int .i64 0)).set 3 (.int .i64 0))
    have rb := Lib.hid ((((G2.out.setCell (p := ⟨D, 0, none⟩) (by simp) (.string ⟨#[]⟩)).setCell (p := ⟨D, 1, none⟩) (by simp) (.int .i64 0)).setCell (p := ⟨D, 2, none⟩) (by simp) (.int .i64 0)).setCell (p := ⟨D, 3, none⟩) (by simp) (.int .i64 0))
    generalize World.setCell _ _ _ = w9 at *
    have rc := r.out.cell
    simp only [List.set_cons_zero, List.set_cons_succ] at rc
    clear q q2 y2
    refine bodyPost_ret (v := .tuple #[lsA ls0, .bool false]) (by simp [results, Tryz.results18, rc, go_sem, lsA, ls0, sB]; try rfl) rfl ?_
    exact ⟨rfl, rb.out⟩
end Go.Proofs.YtneiljaknmeagaaGreatDoor
