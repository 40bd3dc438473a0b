/-
  The contracts of held and of Check. Their conditions are their hypotheses.
-/
import Derived.Test.YtneiljaknmeagaaGreatDoorM3
namespace Go.Proofs.YtneiljaknmeagaaGreatDoor
open Go.RowKit Go.Joins
set_option linter.unusedVariables false
set_option linter.unusedSimpArgs false
/-- Where the lease lies that a session holds with a number. -/
def heldI (U : Tb) (ses : Int) (reel : List UInt8) (fen : Int) : Option Nat :=
  if fhas reel U.lea = true then
    (match U.lea[fpos reel U.lea]? with
      | some x => if x.ses = ses then (if x.fen = fen then some (fpos reel U.lea) else none) else none
      | none => none)
  else none
def heldE (T : Tb) (now ses : Int) (reel : List UInt8) (fen : Int) : Int :=
  if toldE T now = 0 then (if (heldI (toldT T now) ses reel fen).isSome = true then 0 else 18) else toldE T now
def heldK (T : Tb) (now ses : Int) (reel : List UInt8) (fen : Int) : Nat :=
  if toldE T now = 0 then (heldI (toldT T now) ses reel fen).getD 0 else 0
theorem heldI_get {U : Tb} {ses : Int} {reel : List UInt8} {fen : Int} {k : Nat} (h : heldI U ses reel fen = some k) : ∃ x, U.lea[k]? = some x ∧ x.reel = reel ∧ x.ses = ses ∧ x.fen = fen := by
  unfold heldI at h
  split at h
  · rename_i hh
    obtain ⟨x, hx, hr⟩ := fhas_some hh
    rw [hx] at h
    simp only [] at h
    split at h
    · split at h
      · cases h
        exact ⟨x, hx, hr, by assumption, by assumption⟩
      · cases h
    · cases h
  · cases h
set_option maxRecDepth 100000 in
set_option maxHeartbeats 2000000 in
theorem held_any (B p : Nat) (sv lv : Value) (T : Tb) (now ses : Int) (reel : List UInt8) (fen : Int) (w : World) (h : Rep B p sv lv T w) (hasc : Asc T.lea) (hl : T.lea.length ≤ 1000) :
    Calls Tryz.prog 51 #[.pointer (some ⟨p, 0, none⟩), .int .i64 now, .int .i64 ses, .string (sB reel), .int .i64 fen] w (Met B p sv lv w (.tuple #[.int .i64 (heldK T now ses reel fen : Nat), .int .i64 (heldE T now ses reel fen)]) (toldT T now)) := by
  have HTD := Lib.hid (told_any B p sv lv T now w h hl)
  have hBp := h.ge
  obtain ⟨hul, hus, huf, huz⟩ := toldT_len T now
  have HASC := Lib.hid (toldT_asc hasc now)
  unfold heldK heldE
  generalize toldE T now = E at *
  generalize toldT T now = U at *
  have hul2 : U.lea.length ≤ 1000 := by omega
  clear h hl hus huf hasc hul huz
  by_cases hE : E = 0
  · have t1 : (E != 0) = false := by simp [hE]
    rw [if_pos hE, if_pos hE]
    clear hE
    by_cases hh : fhas reel U.lea = true
    · have HHAS := Lib.hid hh
      obtain ⟨x, hx, hxr⟩ := fhas_some hh
      have hkl := (List.getElem?_eq_some_iff.1 hx).1
      have hkl2 : (fpos reel U.lea : Int) < (U.lea.length : Int) := by omega
      have HEI : heldI U ses reel fen = if x.ses = ses then (if x.fen = fen then some (fpos reel U.lea) else none) else none := by
        unfold heldI
        rw [if_pos hh, hx]
      rw [HEI]
      clear HEI
      obtain ⟨k, hk⟩ : ∃ k, fpos reel U.lea = k := ⟨_, rfl⟩
      have HPOS := Lib.hid hk
      rw [hk] at hx hkl hkl2
      rw [hk]
      have HX := Lib.hid hx
      clear hh hk hx hxr
      by_cases hs : x.ses = ses
      · have t2 : (x.ses != ses) = false := by simpa using hs
        rw [if_pos hs]
        clear hs
        by_cases hf : x.fen = fen
        · have t3 : (x.fen != fen) = false := by simpa using hf
          rw [if_pos hf]
          clear hf
          rw [if_pos (show (some k).isSome = true from rfl), show (some k).getD 0 = k from rfl]
          go_enter Tryz.func51, Tryz.ntmps51
          go_wp2_with fail
          refine HTD.out.mono ?_
          clear HTD
          rintro e w1 ⟨rfl, sv1, lv1, h1, f1⟩
          have H1 := Lib.hid h1
          have F1 := Lib.hid f1
          have q := h1.block.cell
          have y := h1.block.free
          have hpw := h1.lt
          obtain ⟨LA, lc, rfl, hlr, hlc, hlm, hfl⟩ := row_of_ownK h1.2.2.2
          clear hfl hlr hlm h1 f1
          go_wp2_with fail
          refine (find_any B p _ _ U reel _ H1.out HASC.out (by omega)).mono ?_
          rintro e w2 ⟨rfl, hb⟩
          have H2 := Lib.hid (H1.out.ext hb)
          have F2 := Lib.hid (F1.out.ext hb (by omega))
          clear hb q y hpw H1 F1
          have q := H2.out.block.cell
          have y := H2.out.block.free
          have hpw := H2.out.lt
          rw [HPOS.out, HHAS.out]
          have HXA : LeasAt w2 LA U.lea := by
            obtain ⟨LA', lc', e', hr', _⟩ := row_of_ownK H2.out.2.2.2
            cases e'
            exact hr'
          obtain ⟨gx, ox, rfl⟩ := LeasAt.some HXA HX.out
          obtain ⟨x0, x1, x2, x3⟩ := LeasAt.get HXA HX.out
          clear HXA
          go_wp2_with fail
          go_ret2
          exact ⟨rfl, _, _, H2.out, F2.out⟩
        · have t3 : (x.fen != fen) = true := by simpa using hf
          rw [if_neg hf]
          clear hf
          rw [if_neg (show ¬ ((none : Option Nat).isSome = true) by simp), show (none : Option Nat).getD 0 = 0 from rfl]
          go_enter Tryz.func51, Tryz.ntmps51
          go_wp2_with fail
          refine HTD.out.mono ?_
          clear HTD
          rintro e w1 ⟨rfl, sv1, lv1, h1, f1⟩
          have H1 := Lib.hid h1
          have F1 := Lib.hid f1
          have q := h1.block.cell
          have y := h1.block.free
          have hpw := h1.lt
          obtain ⟨LA, lc, rfl, hlr, hlc, hlm, hfl⟩ := row_of_ownK h1.2.2.2
          clear hfl hlr hlm h1 f1
          go_wp2_with fail
          refine (find_any B p _ _ U reel _ H1.out HASC.out (by omega)).mono ?_
          rintro e w2 ⟨rfl, hb⟩
          have H2 := Lib.hid (H1.out.ext hb)
          have F2 := Lib.hid (F1.out.ext hb (by omega))
          clear hb q y hpw H1 F1
          have q := H2.out.block.cell
          have y := H2.out.block.free
          have hpw := H2.out.lt
          rw [HPOS.out, HHAS.out]
          have HXA : LeasAt w2 LA U.lea := by
            obtain ⟨LA', lc', e', hr', _⟩ := row_of_ownK H2.out.2.2.2
            cases e'
            exact hr'
          obtain ⟨gx, ox, rfl⟩ := LeasAt.some HXA HX.out
          obtain ⟨x0, x1, x2, x3⟩ := LeasAt.get HXA HX.out
          clear HXA
          go_wp2_with fail
          go_ret2
          exact ⟨rfl, _, _, H2.out, F2.out⟩
      · have t2 : (x.ses != ses) = true := by simpa using hs
        rw [if_neg hs]
        clear hs
        rw [if_neg (show ¬ ((none : Option Nat).isSome = true) by simp), show (none : Option Nat).getD 0 = 0 from rfl]
        go_enter Tryz.func51, Tryz.ntmps51
        go_wp2_with fail
        refine HTD.out.mono ?_
        clear HTD
        rintro e w1 ⟨rfl, sv1, lv1, h1, f1⟩
        have H1 := Lib.hid h1
        have F1 := Lib.hid f1
        have q := h1.block.cell
        have y := h1.block.free
        have hpw := h1.lt
        obtain ⟨LA, lc, rfl, hlr, hlc, hlm, hfl⟩ := row_of_ownK h1.2.2.2
        clear hfl hlr hlm h1 f1
        go_wp2_with fail
        refine (find_any B p _ _ U reel _ H1.out HASC.out (by omega)).mono ?_
        rintro e w2 ⟨rfl, hb⟩
        have H2 := Lib.hid (H1.out.ext hb)
        have F2 := Lib.hid (F1.out.ext hb (by omega))
        clear hb q y hpw H1 F1
        have q := H2.out.block.cell
        have y := H2.out.block.free
        have hpw := H2.out.lt
        rw [HPOS.out, HHAS.out]
        have HXA : LeasAt w2 LA U.lea := by
          obtain ⟨LA', lc', e', hr', _⟩ := row_of_ownK H2.out.2.2.2
          cases e'
          exact hr'
        obtain ⟨gx, ox, rfl⟩ := LeasAt.some HXA HX.out
        obtain ⟨x0, x1, x2, x3⟩ := LeasAt.get HXA HX.out
        clear HXA
        go_wp2_with fail
        go_ret2
        exact ⟨rfl, _, _, H2.out, F2.out⟩
    · have HHAS := Lib.hid (show fhas reel U.lea = false by simpa using hh)
      have HEI : heldI U ses reel fen = none := by
        unfold heldI
        rw [if_neg hh]
      rw [HEI]
      rw [if_neg (show ¬ ((none : Option Nat).isSome = true) by simp), show (none : Option Nat).getD 0 = 0 from rfl]
      obtain ⟨k, hk⟩ : ∃ k, fpos reel U.lea = k := ⟨_, rfl⟩
      have HPOS := Lib.hid hk
      clear hh hk HEI
      go_enter Tryz.func51, Tryz.ntmps51
      go_wp2_with fail
      refine HTD.out.mono ?_
      clear HTD
      rintro e w1 ⟨rfl, sv1, lv1, h1, f1⟩
      have H1 := Lib.hid h1
      have F1 := Lib.hid f1
      have q := h1.block.cell
      have y := h1.block.free
      have hpw := h1.lt
      obtain ⟨LA, lc, rfl, hlr, hlc, hlm, hfl⟩ := row_of_ownK h1.2.2.2
      clear hfl hlr hlm h1 f1
      go_wp2_with fail
      refine (find_any B p _ _ U reel _ H1.out HASC.out (by omega)).mono ?_
      rintro e w2 ⟨rfl, hb⟩
      have H2 := Lib.hid (H1.out.ext hb)
      have F2 := Lib.hid (F1.out.ext hb (by omega))
      clear hb q y hpw H1 F1
      have q := H2.out.block.cell
      have y := H2.out.block.free
      have hpw := H2.out.lt
      rw [HPOS.out, HHAS.out]
      go_wp2_with fail
      go_ret2
      exact ⟨rfl, _, _, H2.out, F2.out⟩
  · have t1 : (E != 0) = true := by simp [hE]
    rw [if_neg hE, if_neg hE]
    clear hE
    go_enter Tryz.func51, Tryz.ntmps51
    go_wp2_with fail
    refine HTD.out.mono ?_
    clear HTD
    rintro e w1 ⟨rfl, sv1, lv1, h1, f1⟩
    have H1 := Lib.hid h1
    have F1 := Lib.hid f1
    have q := h1.block.cell
    have y := h1.block.free
    have hpw := h1.lt
    obtain ⟨LA, lc, rfl, hlr, hlc, hlm, hfl⟩ := row_of_ownK h1.2.2.2
    clear hfl hlr hlm h1 f1
    go_wp2_with fail
    go_ret2
    exact ⟨rfl, _, _, H1.out, F1.out⟩
theorem check_any (B p : Nat) (sv lv : Value) (T : Tb) (now ses : Int) (reel : List UInt8) (fen : Int) (w : World) (h : Rep B p sv lv T w) (hasc : Asc T.lea) (hl : T.lea.length ≤ 1000) :
    Calls Tryz.prog 22 #[.pointer (some ⟨p, 0, none⟩), .int .i64 now, .int .i64 ses, .string (sB reel), .int .i64 fen] w (Met B p sv lv w (.int .i64 (heldE T now ses reel fen)) (toldT T now)) := by
  have HH := Lib.hid (held_any B p sv lv T now ses reel fen w h hasc hl)
  clear h hasc hl
  go_enter Tryz.func22, Tryz.ntmps22
  go_wp2_with fail
  refine HH.out.mono ?_
  rintro e w1 ⟨rfl, sv1, lv1, h1, f1⟩
  have H1 := Lib.hid h1
  have F1 := Lib.hid f1
  clear h1 f1
  go_wp2_with fail
  go_ret
  exact ⟨rfl, _, _, H1.out, F1.out⟩
end Go.Proofs.YtneiljaknmeagaaGreatDoor
