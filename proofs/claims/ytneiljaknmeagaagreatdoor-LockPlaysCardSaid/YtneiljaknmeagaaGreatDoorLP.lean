/-
  The contract of the law LockParses, where the contract of the reference's Parse is given. Its conditions are its hypotheses.
-/
import Derived.Test.YtneiljaknmeagaaGreatDoorBh
import Derived.Test.YtneiljaknmeagaaGreatDoorQh
import Derived.Test.YtneiljaknmeagaaGreatDoorQr
import Derived.Test.YtneiljaknmeagaaGreatDoorM9
namespace Go.Proofs.YtneiljaknmeagaaGreatDoor
open Go.RowKit Go.Joins
set_option linter.unusedVariables false
set_option linter.unusedSimpArgs false
theorem cut800 (s : ByteArray) : (s.extract 0 (min s.size 800)) = sB (s.data.toList.take 800) := ByteArray.ext (by
  apply Array.ext'
  simp [sB, Nat.min_comm])
theorem snd_fit {T : Tb} (h : Snd T) : Fit T := by
  have h1 := h.now
  have h2 := h.ls
  have h3 := h.lf
  have a1 : T.now ≤ 10378368000 := h1.2
  have a2 : T.ls ≤ 1099511627776 := h2.2
  have a3 : T.lf ≤ 1099511627776 := h3.2
  refine ⟨⟨by omega, by omega⟩, ⟨by omega, by omega⟩, ⟨by omega, by omega⟩, fun n hn => ?_, by have := h.slen; omega, by have := h.llen; omega, fun x hx => ?_⟩
  · have := h.ses n hn
    exact ⟨by omega, by omega⟩
  · obtain ⟨g1, g2, g3, g4, g5, g6⟩ := h.lea x hx
    have := h.ses _ g2
    refine ⟨?_, ⟨by omega, by omega⟩, ⟨by omega, by omega⟩, ⟨by omega, by omega⟩⟩
    have hl : ¬ 16 < x.reel.length := fun hh => by rw [nm_long hh] at g1; cases g1
    omega
theorem snd_inR {T : Tb} (h : Snd T) : InR T := by
  have h1 := h.now
  have h2 := h.ls
  have h3 := h.lf
  have a1 : T.now ≤ 10378368000 := h1.2
  have a2 : T.ls ≤ 1099511627776 := h2.2
  have a3 : T.lf ≤ 1099511627776 := h3.2
  have hm : mRf = 1109889995776 := rfl
  unfold InR
  rw [hm]
  refine ⟨⟨by omega, by omega⟩, ⟨by omega, by omega⟩, ⟨by omega, by omega⟩, fun n hn => ?_, fun x hx => ?_⟩
  · have := h.ses n hn
    omega
  · obtain ⟨g1, g2, g3, g4, g5, g6⟩ := h.lea x hx
    have := h.ses _ g2
    exact ⟨⟨by omega, by omega⟩, ⟨by omega, by omega⟩, ⟨by omega, by omega⟩⟩
set_option maxRecDepth 100000 in
set_option maxHeartbeats 8000000 in
theorem parses_law0 (HPR : ∀ (l : List UInt8) (W : World), l.length ≤ 900 → Calls Tryz.prog 7 #[.string (sB l)] W (ParrP l W.heap.size W)) (s : ByteArray) (w : World) (hs : s.size ≤ 9223372036854775807) (hw : Wd w) :
    Calls Tryz.prog 3 #[.string s] w fun e w' => e = .returned (.bool true) ∧ Below w.heap.size w w' := by
  have e800 : (min (s.size : Int) 800).toNat = min s.size 800 := by omega
  have HC := Lib.hid (cut800 s)
  have HW := Lib.hid hw
  have HPX := Lib.hid HPR
  obtain ⟨D, hD⟩ : ∃ D, D = w.heap.size := ⟨_, rfl⟩
  have HD := Lib.hid hD
  rw [← hD]
  clear hw HPR hD
  go_enter Tryz.func3, Tryz.ntmps3
  go_wp2_with fail
  refine (awake_any w HW.out.tab).mono ?_
  rintro e w1 ⟨rfl, hb⟩
  have G1 := Lib.hid (show Below D w w1 from HD.out ▸ hb)
  clear hb
  go_wp2_with fail
  rw [HC.out]
  obtain ⟨l, hl⟩ : ∃ l, l = s.data.toList.take 800 := ⟨_, rfl⟩
  have hll : l.length ≤ 900 := by rw [hl, List.length_take]; omega
  rw [← hl]
  clear hl e800 HC hs
  refine (parse_any l w1 hll (HW.out.on (HD.out ▸ G1.out))).mono ?_
  rintro e w2 ⟨hor, hb2⟩
  have hD1 : D ≤ w1.heap.size := by have := G1.out.size; have := HD.out; omega
  have G2 := Lib.hid (G1.out.trans (hb2.mono hD1))
  have hD2 : D ≤ w2.heap.size := by have := hb2.size; omega
  have HRF := Lib.hid (HPX.out l w2 hll)
  unfold ParrP at HRF
  clear hb2
  rcases hor with ⟨p, sv, lv, T, hT, rfl, hrep⟩ | ⟨hT, rfl⟩
  · have HT := Lib.hid (parT_text hT)
    have HR := Lib.hid hrep
    rw [hT] at HRF
    clear hT hrep
    go_wp2_with fail
    refine HRF.out.mono ?_
    rintro e w3 ⟨hor, hb3⟩
    rcases hor with ⟨sv', lv', T', hT', rfl, href⟩ | ⟨hT', _⟩
    · obtain rfl : T = T' := Option.some.inj hT'
      have HR3 := Lib.hid (HR.out.ext hb3)
      have G3 := Lib.hid (G2.out.trans (hb3.mono hD2))
      have HRT := Lib.hid href
      have hD3 : D ≤ w3.heap.size := by have := hb3.size; omega
      obtain ⟨⟨SA, sc, rfl, h1⟩, LA, lc, rfl, h2, h3, h4⟩ := href
      clear hb3 hT' HRF h1 h2 h3 h4
      go_wp2_with fail
      obtain ⟨X, hX⟩ : ∃ X, X = w3.heap.size := ⟨_, rfl⟩
      rw [← hX]
      generalize hw4 : World.alloc _ _ = w4
      have F4 := Lib.hid (show Held w4 X [.int .i64 T.now, .int .i64 T.ls, .int .i64 T.lf, .slice SA T.ses.length sc, .slice LA T.lea.length lc] by subst hw4; exact Held.new hX)
      have B4 := Lib.hid (show Below w3.heap.size w3 w4 by subst hw4; exact below_one _ _)
      have G4 := Lib.hid (G3.out.trans (B4.out.mono hD3))
      have HR4 := Lib.hid (HR3.out.ext B4.out)
      have HRT4 := Lib.hid (HRT.out.ext B4.out)
      have hD4 : D ≤ w4.heap.size := by have := B4.out.size; omega
      clear hw4 hX
      refine (text_any _ p sv lv T w4 HR4.out (snd_fit HT.out.2) (HW.out.on (HD.out ▸ G4.out)).tab).mono ?_
      rintro e w5 ⟨rfl, hb5⟩
      rw [HT.out.1]
      have F5 := Lib.hid (F4.out.ext hb5)
      have G5 := Lib.hid (G4.out.trans (hb5.mono hD4))
      have HTX := Lib.hid (textr_any T _ _ w5 (HRT4.out.ext hb5) (snd_inR HT.out.2) (snd_fit HT.out.2))
      have q := F5.out.cell
      have hXw := F5.out.lt
      have hD5 : D ≤ w5.heap.size := by have := hb5.size; omega
      clear hb5
      go_wp2_with fail
      refine HTX.out.mono ?_
      rintro e w6 ⟨rfl, hb6⟩
      rw [HT.out.1]
      have G6 := Lib.hid (G5.out.trans (hb6.mono hD5))
      clear hb6 q
      go_wp2_with fail
      go_ret
      exact ⟨by simp, G6.out⟩
    · cases hT'
  · rw [hT] at HRF
    clear hT
    go_wp2_with fail
    refine HRF.out.mono ?_
    rintro e w3 ⟨hor, hb3⟩
    rcases hor with ⟨sv', lv', T', hT', _⟩ | ⟨_, rfl⟩
    · cases hT'
    · have G3 := Lib.hid (G2.out.trans (hb3.mono hD2))
      have hD3 : D ≤ w3.heap.size := by have := hb3.size; omega
      clear hb3 HRF
      go_wp2_with fail
      go_ret
      exact ⟨rfl, G3.out.alloc hD3 _⟩
end Go.Proofs.YtneiljaknmeagaaGreatDoor
