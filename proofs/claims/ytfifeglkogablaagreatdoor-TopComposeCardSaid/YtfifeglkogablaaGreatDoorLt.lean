/-
  The contract of the law TopCompose. Its conditions are its hypotheses.
-/
import Derived.Test.YtfifeglkogablaaGreatDoorJ4
import Derived.Test.YtfifeglkogablaaGreatDoorJ3
import Derived.Test.YtfifeglkogablaaGreatDoorBu
import Derived.Test.YtfifeglkogablaaGreatDoorTa
namespace Go.Proofs.YtfifeglkogablaaGreatDoor
open Go.RowKit Go.Joins
set_option linter.unusedVariables false
set_option linter.unusedSimpArgs false
def tcS : List UInt8 := [48, 45, 49, 48, 62, 49, 48, 48, 42, 49, 47, 49]
def tcP : List Pc := [⟨0, 10, 100, 1, 1⟩]
theorem tc1 : txtP tcP = (tcS, 0) := by kernel_rfl
theorem chk_frp {L : List Pc} (h : chkP L = 0) : Frp L := fun x hx => by
  have := sgl_bd ((chkP_ok.1 h).2.1 x hx)
  exact ⟨⟨by omega, by omega⟩, by omega, by omega⟩
theorem news_of {w : World} {g o : Nat} {L : List Spn} (h : SpAt w (some ⟨g, o, none⟩) L) : ∀ j u, (L.flatMap spV)[j]? = some u → w.cell? ((⟨g, o, none⟩ : Addr).add j) = some u := by
  intro j u hj
  obtain ⟨b, o', e, hc⟩ := h j u hj
  cases e
  rw [Addr.add_lit]
  exact hc
theorem none_nilS {w : World} {L : List Spn} (h : SpAt w none L) : L = [] := by
  cases L with
  | nil => rfl
  | cons x r => obtain ⟨g, o, e⟩ := SpAt.some h (k := 0) (x := x) rfl; cases e
theorem covers_any (A : Option Addr) (c : Nat) (A2 : Option Addr) (c2 : Nat) (X : List Spn) (w : World) (h : SpAt w A X) (h2 : SpAt w A2 X) (hx : chkS X = 0) :
    Calls Tryz.prog 8 #[.slice A X.length c, .slice A2 X.length c2] w fun e w' => e = .returned (.bool true) ∧ Below w.heap.size w w' := by
  have hl := (chkS_ok.1 hx).1
  have HS := Lib.hid (sub_any A2 c2 X A c X w h2 h (by omega) (by omega))
  rw [sub_self hx] at HS
  unfold RetP at HS
  obtain ⟨D, hD⟩ : ∃ D, D = w.heap.size := ⟨_, rfl⟩
  rw [← hD] at HS ⊢
  clear h h2 hx hl hD
  go_enter Tryz.func8, Tryz.ntmps8
  go_wp2_with fail
  refine HS.out.mono ?_
  rintro e w1 ⟨⟨v, rfl, ho⟩, hb⟩
  dsimp only at ho ⊢
  obtain ⟨A5, c5, e5, _⟩ := own_form (L := []) ho
  cases e5
  have G1 := Lib.hid hb
  clear ho hb HS
  go_wp2_with fail
  go_ret
  exact ⟨rfl, G1.out⟩
set_option maxRecDepth 100000 in
set_option maxHeartbeats 8000000 in
theorem compose_law (A : Option Addr) (c : Nat) (L : List Pc) (A2 : Option Addr) (c2 : Nat) (L2 : List Pc) (s : Spn) (w : World) (h : PcAt w A L) (hf : Frp L) (hl : L.length ≤ 9223372036854775807) (h2 : PcAt w A2 L2) (hf2 : Frp L2) (hl2 : L2.length ≤ 9223372036854775807) (ht : Wd w) :
    Calls Tryz.prog 3 #[.slice A L.length c, .slice A2 L2.length c2, spA s] w fun e w' => e = .returned (.bool true) ∧ Below w.heap.size w w' := by
  have HL := Lib.hid h
  have HF := Lib.hid hf
  have HL2 := Lib.hid h2
  have HF2 := Lib.hid hf2
  have HT := Lib.hid ht
  obtain ⟨B, hB⟩ : ∃ B, B = w.heap.size := ⟨_, rfl⟩
  have HB := Lib.hid hB
  rw [← hB]
  have HPP := Lib.hid (fun W (h : Wd W) => parsep_any tcS W (by decide) h)
  rw [prsP_hit tc1] at HPP
  have HCM := Lib.hid (fun W (h : PcAt W A L) (h2 : PcAt W A2 L2) (hl : L.length ≤ 1000000) (hl2 : L2.length ≤ 1000000) => compose_any A c L A2 c2 L2 W h h2 HF.out HF2.out hl hl2)
  have HIA := Lib.hid (fun W (h : PcAt W A L) (hl : L.length ≤ 1000000000) => img_any A c L s W h HF.out hl)
  have HIB := Lib.hid (fun W u (h : PcAt W A2 L2) (hl : L2.length ≤ 1000000000) => img_any A2 c2 L2 u W h HF2.out hl)
  have HIV := Lib.hid (fun W (h : PcAt W A L) (hl : L.length ≤ 1000000) => inverse_any A c L W h HF.out hl)
  have HDA := Lib.hid (fun W (h : PcAt W A L) (hl : L.length ≤ 1000000000) => domain_any A c L W h HF.out hl)
  unfold RetM at HPP HCM HIV
  unfold RetP at HIA HIB HDA
  have HCI := Lib.hid (fun h1 h2 h3 h4 => compose_img (a := L) (b := L2) (s := s) h1 h2 h3 h4)
  have HCK := Lib.hid (fun (h : (cmpP L L2).2 = 0) => (cmp_ok h).2.2.2.2.1)
  obtain ⟨⟨CL, CE⟩, hc⟩ : ∃ p, p = cmpP L L2 := ⟨_, rfl⟩
  rw [← hc] at HCM HCI HCK
  have HII := Lib.hid (fun h1 h2 => invert_id (a := L) h1 h2)
  have HVK := Lib.hid (fun (h : (invP L).2 = 0) => (inv_ok h).2.2.1)
  obtain ⟨⟨VL, VE⟩, hv⟩ : ∃ p, p = invP L := ⟨_, rfl⟩
  rw [← hv] at HIV HII HVK
  obtain ⟨i0, hi, hz0, hz1, hz2⟩ := info_parts infoS
  have HI0 := Lib.hid (And.intro hi (And.intro hz0 (And.intro hz1 hz2)))
  clear h hf h2 hf2 ht hB hc hv hi hz0 hz1 hz2
  go_enter Tryz.func3, Tryz.ntmps3
  go_wp2_with fail
  rw [← HB.out]
  generalize hw0 : World.alloc w _ = w1
  have HS := Lib.hid (show Held w1 B [.int .i64 s.i, .int .i64 s.o] by subst hw0; exact Held.new HB.out)
  have b0 := Lib.hid (show Below w.heap.size w w1 by subst hw0; exact below_one _ _)
  have G := Lib.hid (show Below B w w1 from HB.out ▸ b0.out)
  have hs : B ≤ w1.heap.size := by have := G.out.size; have := HB.out; omega
  have HL := Lib.hid (HL.out.ext b0.out)
  have HL2 := Lib.hid (HL2.out.ext b0.out)
  clear hw0 b0
  obtain ⟨s0, s1⟩ := two_of HS.out
  refine (show Calls Tryz.prog 4 #[.string ⟨#[48, 45, 49, 48, 62, 49, 48, 48, 42, 49, 47, 49]⟩] w1 _ from HPP.out w1 (HT.out.on (HB.out ▸ G.out))).mono ?_
  rintro e w2 ⟨⟨v, rfl, ho⟩, hb⟩
  dsimp only at ho ⊢
  obtain ⟨A1, c1, e1, _⟩ := own_formP ho
  subst e1
  clear ho s0 s1
  have G := Lib.hid (G.out.trans (hb.mono hs))
  have hs : B ≤ (World.heap w2).size := by have := G.out.size; have := HB.out; omega
  have HL := Lib.hid (HL.out.ext hb)
  have HL2 := Lib.hid (HL2.out.ext hb)
  have HS := Lib.hid (HS.out.ext hb)
  clear hb
  by_cases h8 : L.length ≤ 20 ∧ L2.length ≤ 20
  · obtain ⟨k1n, k2n⟩ := h8
    have k1 : (L.length : Int) ≤ 20 := by omega
    have k2 : (L2.length : Int) ≤ 20 := by omega
    obtain ⟨s0, s1⟩ := two_of HS.out
    go_wp2_with fail
    refine (HCM.out w2 HL.out HL2.out (by omega) (by omega)).mono ?_
    rintro e w3 ⟨⟨v, rfl, ho⟩, hb⟩
    dsimp only at ho ⊢
    obtain ⟨A5, c5, e5, hr5, _⟩ := own_formP ho
    subst e5
    clear ho
    clear s0 s1
    have G := Lib.hid (G.out.trans (hb.mono hs))
    have hs : B ≤ (World.heap w3).size := by have := G.out.size; have := HB.out; omega
    have HL := Lib.hid (HL.out.ext hb)
    have HL2 := Lib.hid (HL2.out.ext hb)
    have HS := Lib.hid (HS.out.ext hb)
    clear hb
    have R5 := Lib.hid hr5
    clear hr5
    by_cases hx : CE = 0
    · subst hx
      have hck := HCK.out rfl
      try dsimp only at hck
      have HIC := Lib.hid (fun W (h : PcAt W A5 CL) => img_any A5 c5 CL s W h (chk_frp hck) (by have := (chkP_ok.1 hck).1; omega))
      have HCI := Lib.hid (fun h => HCI.out rfl h k1n k2n)
      try dsimp only at HCI
      unfold RetP at HIC
      obtain ⟨⟨XI, XE⟩, hxi⟩ : ∃ p, p = imgP CL s := ⟨_, rfl⟩
      rw [← hxi] at HIC HCI
      try dsimp only at HCI
      clear hck hxi HCM
      obtain ⟨s0, s1⟩ := two_of HS.out
      go_wp2_with fail
      refine (HIC.out w3 R5.out).mono ?_
      rintro e w4 ⟨⟨v, rfl, ho⟩, hb⟩
      dsimp only at ho ⊢
      obtain ⟨A6, c6, e6, hr6, _⟩ := own_form ho
      subst e6
      clear ho
      clear s0 s1
      have G := Lib.hid (G.out.trans (hb.mono hs))
      have hs : B ≤ (World.heap w4).size := by have := G.out.size; have := HB.out; omega
      have HL := Lib.hid (HL.out.ext hb)
      have HL2 := Lib.hid (HL2.out.ext hb)
      have HS := Lib.hid (HS.out.ext hb)
      have R5 := Lib.hid (R5.out.ext hb)
      clear hb
      have R6 := Lib.hid hr6
      clear hr6
      by_cases hy : XE = 0
      · subst hy
        obtain ⟨f1, f2, f3, f4, f5⟩ := HCI.out rfl
        rw [f1] at HIA
        obtain ⟨ONE, hone⟩ : ∃ O, O = joinS (imgL L s) := ⟨_, rfl⟩
        rw [← hone] at HIA f2 f3 f4
        have HON := Lib.hid f3
        have HNO := Lib.hid f4
        have HXC := Lib.hid f5
        clear f1 f3 f4 f5 hone HIC HCI
        obtain ⟨s0, s1⟩ := two_of HS.out
        go_wp2_with fail
        refine (HIA.out w4 HL.out (by omega)).mono ?_
        rintro e w5 ⟨⟨v, rfl, ho⟩, hb⟩
        dsimp only at ho ⊢
        obtain ⟨A7, c7, e7, hr7, _⟩ := own_form ho
        subst e7
        clear ho
        clear s0 s1
        have G := Lib.hid (G.out.trans (hb.mono hs))
        have hs : B ≤ (World.heap w5).size := by have := G.out.size; have := HB.out; omega
        have HL := Lib.hid (HL.out.ext hb)
        have HL2 := Lib.hid (HL2.out.ext hb)
        have HS := Lib.hid (HS.out.ext hb)
        have R5 := Lib.hid (R5.out.ext hb)
        have R6 := Lib.hid (R6.out.ext hb)
        clear hb
        have R7 := Lib.hid hr7
        clear hr7
        clear HIA
        go_wp2_with fail
        obtain ⟨N, hN⟩ : ∃ N, N = w5.heap.size := ⟨_, rfl⟩
        have HNN := Lib.hid hN
        have hBN : B ≤ N := by omega
        have GN := G
        clear hN
        go_loopw [12, 72] (fun ov i wr => ∃ (k : Nat) (uv : Value), uv = ov ∧ k ≤ ONE.length ∧ i = .int .i64 k ∧ Hid (wr.ownsRow N 24 2 uv (imsL L2 (ONE.take k)).length ((imsL L2 (ONE.take k)).flatMap spV)) ∧ Hid (Below N w5 wr)) (fun _ i _ => ONE.length - (intOf i).toNat)
        case atStart => exact ⟨0, _, rfl, by omega, rfl, Lib.hid (World.ownsRow_nil _ _ _ _), Lib.hid (HNN.out ▸ Below.refl _ _)⟩
        case round =>
          obtain ⟨k, uv, rfl, hk, rfl, HO, GL⟩ := hrel
          have hNw : N ≤ wr.heap.size := by have := GL.out.size; have := HNN.out; omega
          by_cases hlt : k < ONE.length
          · have hlt2 : (k : Int) < (ONE.length : Int) := by omega
            obtain ⟨u, hu⟩ : ∃ x, ONE[k]? = some x := ⟨_, List.getElem?_eq_getElem hlt⟩
            have HRw := R7.out.ext (HNN.out ▸ GL.out)
            obtain ⟨g, o, rfl⟩ := SpAt.some HRw hu
            obtain ⟨q0, q1⟩ := SpAt.get HRw hu
            have HU := Lib.hid (HON.out u (List.mem_of_getElem? hu))
            have HST := Lib.hid (ims_step (b := L2) hu)
            have HML := Lib.hid (show (imsL L2 (ONE.take k)).length ≤ 400 by
              have h1 := ims_len L2 (ONE.take k)
              have h2 := List.length_take_le k ONE
              have h3 : (ONE.take k).length * L2.length ≤ 20 * 20 := Nat.mul_le_mul (by rw [List.length_take]; omega) k2n
              omega)
            have HJL := Lib.hid (show (joinS (imgL L2 u)).length ≤ 20 by
              have h1 := joinS_len (imgL L2 u)
              have h2 := imgL_len L2 u
              omega)
            generalize imsL L2 (ONE.take k) = M at *
            clear HRw hu
            go_wp2_with fail
            have HB2 := Lib.hid ((HL2.out.ext (HNN.out ▸ GL.out)).ext (below_one wr (.cells #[.int .i64 u.i, .int .i64 u.o] 24)))
            have HIX := Lib.hid (HIB.out _ u HB2.out (by omega))
            rw [HU.out] at HIX
            refine HIX.out.mono ?_
            generalize joinS (imgL L2 u) = J at *
            rintro e w3 ⟨⟨v, rfl, ho⟩, hb⟩
            dsimp only at ho ⊢
            have HO3 := Lib.hid (ownsRow_below (B := (wr.alloc (.cells #[.int .i64 u.i, .int .i64 u.o] 24)).heap.size) (HO.out.alloc _) hb (Nat.le_refl _))
            have G3 := Lib.hid (show Below N w5 w3 from (GL.out.alloc hNw _).trans (hb.mono (by simp; omega)))
            have hs3 : N ≤ w3.heap.size := by have := G3.out.size; have := HNN.out; omega
            obtain ⟨A8, c8, e8, hr8, hn8, hA8⟩ := own_form ho
            subst e8
            have HR8 := Lib.hid hr8
            clear ho hb hr8 HIX HB2 q0 q1 HO
            rcases hA8 with ⟨rfl, rfl⟩ | ⟨g8, o8, rfl⟩
            · obtain rfl := none_nilS HR8.out
              rw [List.append_nil] at HST
              go_wp2_with (at_builtin; refine wpList_append_own_none rfl _ _ 29 rfl N 24 i0 2 Tryz.underlying29 HI0.out.1 _ M.length (M.flatMap spV) rfl HO3.out rfl ?_)
              rw [← HST.out] at HO3
              go_roundw
              case rel => exact ⟨k + 1, _, rfl, by omega, by go_num, HO3, G3⟩
              case measure => simp [intOf]; omega
            · have hml := HML.out
              have hjl := HJL.out
              go_wp2_with (at_builtin; go_loud (refine wpList_append_own _ rfl _ _ 29 rfl N 24 i0 (.agg #[.int .i64 0, .int .i64 0]) 2 16 Tryz.underlying29 HI0.out.1 HI0.out.2.1 HI0.out.2.2.1 HI0.out.2.2.2 rfl (by decide) _ M.length (M.flatMap spV) rfl HO3.out ⟨g8, o8, none⟩ J.length c8 (J.flatMap spV) rfl (by rw [flat_len spV_len]) (news_of HR8.out) (spV_flat_one _) (by simp only [maxLen]; omega) (by omega) hs3 ?_))
              intro v4 w4 ho4 hgr4 _
              have G4 := Lib.hid (show Below N w5 w4 from G3.out.grown hgr4 hs3 (own_base HO3.out))
              have HO4 := Lib.hid (show w4.ownsRow N 24 2 v4 (M ++ J).length ((M ++ J).flatMap spV) by
                rw [List.flatMap_append, List.length_append]
                exact ho4)
              rw [← HST.out] at HO4
              clear ho4 hgr4
              go_wp2_with fail
              go_roundw
              case rel => exact ⟨k + 1, _, rfl, by omega, by go_num, HO4, G4⟩
              case measure => simp [intOf]; omega
          · obtain rfl : k = ONE.length := by omega
            rw [List.take_length] at HO
            clear hlt
            have be := Lib.hid (HNN.out ▸ GL.out)
            have G := Lib.hid (GN.out.trans (GL.out.mono hBN))
            have hs : B ≤ wr.heap.size := by omega
            have HL := Lib.hid (HL.out.ext be.out)
            have HL2 := Lib.hid (HL2.out.ext be.out)
            have HS := Lib.hid (HS.out.ext be.out)
            have R5 := Lib.hid (R5.out.ext be.out)
            have R6 := Lib.hid (R6.out.ext be.out)
            have R7 := Lib.hid (R7.out.ext be.out)
            have HIL := Lib.hid (show (imsL L2 ONE).length ≤ 1000000 by
              have h1 := ims_len L2 ONE
              have h3 : ONE.length * L2.length ≤ 20 * 20 := Nat.mul_le_mul f2 k2n
              omega)
            obtain ⟨A8, c8, e8, hr8, _⟩ := own_form HO.out
            subst e8
            have HNM := Lib.hid (norm_any A8 c8 _ wr hr8 HIL.out)
            rw [HNO.out] at HNM
            unfold RetP at HNM
            generalize imsL L2 ONE = IMS at *
            clear be GL hNw hr8 HIL HNO HON HIB HO
            generalize wr = w6 at *
            obtain ⟨s0, s1⟩ := two_of HS.out
            go_wp2_with fail
            refine (HNM.out).mono ?_
            rintro e w7 ⟨⟨v, rfl, ho⟩, hb⟩
            dsimp only at ho ⊢
            obtain ⟨A9, c9, e9, hr9, _⟩ := own_form ho
            subst e9
            clear ho
            clear s0 s1
            have G := Lib.hid (G.out.trans (hb.mono hs))
            have hs : B ≤ (World.heap w7).size := by have := G.out.size; have := HB.out; omega
            have HL := Lib.hid (HL.out.ext hb)
            have HL2 := Lib.hid (HL2.out.ext hb)
            have HS := Lib.hid (HS.out.ext hb)
            have R5 := Lib.hid (R5.out.ext hb)
            have R6 := Lib.hid (R6.out.ext hb)
            have R7 := Lib.hid (R7.out.ext hb)
            clear hb
            have R9 := Lib.hid hr9
            clear hr9
            clear HNM
            go_wp2_with fail
            refine (covers_any A6 c6 A9 c9 XI w7 R6.out R9.out HXC.out).mono ?_
            rintro e w8 ⟨rfl, hb⟩
            have G := Lib.hid (G.out.trans (hb.mono hs))
            have hs : B ≤ (World.heap w8).size := by have := G.out.size; have := HB.out; omega
            have HL := Lib.hid (HL.out.ext hb)
            have HL2 := Lib.hid (HL2.out.ext hb)
            have HS := Lib.hid (HS.out.ext hb)
            have R5 := Lib.hid (R5.out.ext hb)
            have R6 := Lib.hid (R6.out.ext hb)
            have R7 := Lib.hid (R7.out.ext hb)
            have R9 := Lib.hid (R9.out.ext hb)
            clear hb
            go_wp2_with fail
            refine (covers_any A9 c9 A6 c6 XI w8 R9.out R6.out HXC.out).mono ?_
            rintro e w9 ⟨rfl, hb⟩
            have G := Lib.hid (G.out.trans (hb.mono hs))
            have hs : B ≤ (World.heap w9).size := by have := G.out.size; have := HB.out; omega
            have HL := Lib.hid (HL.out.ext hb)
            have HL2 := Lib.hid (HL2.out.ext hb)
            have HS := Lib.hid (HS.out.ext hb)
            have R5 := Lib.hid (R5.out.ext hb)
            have R6 := Lib.hid (R6.out.ext hb)
            have R7 := Lib.hid (R7.out.ext hb)
            have R9 := Lib.hid (R9.out.ext hb)
            clear hb
            clear GN hBN HNN HXC
            obtain ⟨s0, s1⟩ := two_of HS.out
            go_wp2_with fail
            refine (HIV.out w9 HL.out (by omega)).mono ?_
            rintro e w10 ⟨⟨v, rfl, ho⟩, hb⟩
            dsimp only at ho ⊢
            obtain ⟨A10, c10, e10, hr10, _⟩ := own_formP ho
            subst e10
            clear ho
            clear s0 s1
            have G := Lib.hid (G.out.trans (hb.mono hs))
            have hs : B ≤ (World.heap w10).size := by have := G.out.size; have := HB.out; omega
            have HL := Lib.hid (HL.out.ext hb)
            have HL2 := Lib.hid (HL2.out.ext hb)
            have HS := Lib.hid (HS.out.ext hb)
            have R5 := Lib.hid (R5.out.ext hb)
            have R6 := Lib.hid (R6.out.ext hb)
            have R7 := Lib.hid (R7.out.ext hb)
            have R9 := Lib.hid (R9.out.ext hb)
            clear hb
            have R10 := Lib.hid hr10
            clear hr10
            by_cases hv : VE = 0
            · subst hv
              have hvk := HVK.out rfl
              try dsimp only at hvk
              obtain ⟨e1, e2, e3, e4, e5, e6⟩ := HII.out rfl k1n
              try dsimp only at e1 e2 e3 e5 e6
              have HCV := Lib.hid (fun W (h : PcAt W A L) (h2 : PcAt W A10 VL) => compose_any A c L A10 c10 VL W h h2 HF.out (chk_frp hvk) (by omega) (by have := (chkP_ok.1 hvk).1; omega))
              have HIK := Lib.hid (cmp_ok e1).2.2.2.2.1
              unfold RetM at HCV
              obtain ⟨⟨IL, IE⟩, hi⟩ : ∃ p, p = cmpP L VL := ⟨_, rfl⟩
              rw [← hi] at HCV HIK e1 e2 e3 e5 e6
              try dsimp only at HIK e1 e2 e3 e5 e6
              subst e1
              obtain ⟨⟨DL, DE⟩, hd⟩ : ∃ p, p = domP L := ⟨_, rfl⟩
              have HDL := Lib.hid (show DL.length ≤ 1000000 by
                have h1 := congrArg Prod.fst hd
                have h2 := joinS_len (domL L)
                have h3 := domL_len L
                have h4 : (domP L).1.length ≤ (joinS (domL L)).length := by unfold domP; split <;> simp
                rw [← h1] at h4
                simp only at h4
                omega)
              rw [← hd] at HDA e4 e6
              try dsimp only at e4 e6
              subst e4
              obtain ⟨⟨FL, FE⟩, hd2⟩ : ∃ p, p = domP IL := ⟨_, rfl⟩
              rw [← hd2] at e5 e6
              try dsimp only at e5 e6
              subst e5 e6
              have HTI := Lib.hid e3
              clear hi hd e3 hvk
              obtain ⟨s0, s1⟩ := two_of HS.out
              go_wp2_with fail
              refine (HCV.out w10 HL.out R10.out).mono ?_
              rintro e w11 ⟨⟨v, rfl, ho⟩, hb⟩
              dsimp only at ho ⊢
              obtain ⟨A11, c11, e11, hr11, _⟩ := own_formP ho
              subst e11
              clear ho
              clear s0 s1
              have G := Lib.hid (G.out.trans (hb.mono hs))
              have hs : B ≤ (World.heap w11).size := by have := G.out.size; have := HB.out; omega
              have HL := Lib.hid (HL.out.ext hb)
              have HL2 := Lib.hid (HL2.out.ext hb)
              have HS := Lib.hid (HS.out.ext hb)
              have R5 := Lib.hid (R5.out.ext hb)
              have R6 := Lib.hid (R6.out.ext hb)
              have R7 := Lib.hid (R7.out.ext hb)
              have R9 := Lib.hid (R9.out.ext hb)
              have R10 := Lib.hid (R10.out.ext hb)
              clear hb
              have R11 := Lib.hid hr11
              clear hr11
              obtain ⟨s0, s1⟩ := two_of HS.out
              go_wp2_with fail
              refine (HDA.out w11 HL.out (by omega)).mono ?_
              rintro e w12 ⟨⟨v, rfl, ho⟩, hb⟩
              dsimp only at ho ⊢
              obtain ⟨A12, c12, e12, hr12, _⟩ := own_form ho
              subst e12
              clear ho
              clear s0 s1
              have G := Lib.hid (G.out.trans (hb.mono hs))
              have hs : B ≤ (World.heap w12).size := by have := G.out.size; have := HB.out; omega
              have HL := Lib.hid (HL.out.ext hb)
              have HL2 := Lib.hid (HL2.out.ext hb)
              have HS := Lib.hid (HS.out.ext hb)
              have R5 := Lib.hid (R5.out.ext hb)
              have R6 := Lib.hid (R6.out.ext hb)
              have R7 := Lib.hid (R7.out.ext hb)
              have R9 := Lib.hid (R9.out.ext hb)
              have R10 := Lib.hid (R10.out.ext hb)
              have R11 := Lib.hid (R11.out.ext hb)
              clear hb
              have R12 := Lib.hid hr12
              clear hr12
              have HDI := Lib.hid (fun W (h : PcAt W A11 IL) => domain_any A11 c11 IL W h (chk_frp HIK.out) (by have := (chkP_ok.1 HIK.out).1; omega))
              unfold RetP at HDI
              rw [← hd2] at HDI
              clear hd2
              obtain ⟨s0, s1⟩ := two_of HS.out
              go_wp2_with fail
              refine (HDI.out w12 R11.out).mono ?_
              rintro e w13 ⟨⟨v, rfl, ho⟩, hb⟩
              dsimp only at ho ⊢
              obtain ⟨A13, c13, e13, hr13, _⟩ := own_form ho
              subst e13
              clear ho
              clear s0 s1
              have G := Lib.hid (G.out.trans (hb.mono hs))
              have hs : B ≤ (World.heap w13).size := by have := G.out.size; have := HB.out; omega
              have HL := Lib.hid (HL.out.ext hb)
              have HL2 := Lib.hid (HL2.out.ext hb)
              have HS := Lib.hid (HS.out.ext hb)
              have R5 := Lib.hid (R5.out.ext hb)
              have R6 := Lib.hid (R6.out.ext hb)
              have R7 := Lib.hid (R7.out.ext hb)
              have R9 := Lib.hid (R9.out.ext hb)
              have R10 := Lib.hid (R10.out.ext hb)
              have R11 := Lib.hid (R11.out.ext hb)
              have R12 := Lib.hid (R12.out.ext hb)
              clear hb
              have R13 := Lib.hid hr13
              clear hr13
              clear HCV HDA HDI HIV
              go_wp2_with fail
              refine (same_any A12 c12 A13 c13 FL w13 R12.out R13.out (by have := HDL.out; omega)).mono ?_
              rintro e w14 ⟨rfl, hb⟩
              have G := Lib.hid (G.out.trans (hb.mono hs))
              have hs : B ≤ (World.heap w14).size := by have := G.out.size; have := HB.out; omega
              have HL := Lib.hid (HL.out.ext hb)
              have HL2 := Lib.hid (HL2.out.ext hb)
              have HS := Lib.hid (HS.out.ext hb)
              have R5 := Lib.hid (R5.out.ext hb)
              have R6 := Lib.hid (R6.out.ext hb)
              have R7 := Lib.hid (R7.out.ext hb)
              have R9 := Lib.hid (R9.out.ext hb)
              have R10 := Lib.hid (R10.out.ext hb)
              have R11 := Lib.hid (R11.out.ext hb)
              have R12 := Lib.hid (R12.out.ext hb)
              have R13 := Lib.hid (R13.out.ext hb)
              clear hb
              go_wp2_with fail
              obtain ⟨N, hN⟩ : ∃ N, N = w14.heap.size := ⟨_, rfl⟩
              have HNN := Lib.hid hN
              have hBN : B ≤ N := by omega
              have GN := G
              clear hN
              go_loopw [152] (fun i wr => ∃ k : Nat, k ≤ IL.length ∧ i = .int .i64 k ∧ Hid (Below N w14 wr)) (fun i _ => IL.length - (intOf i).toNat)
              case atStart => exact ⟨0, by omega, rfl, Lib.hid (HNN.out ▸ Below.refl _ _)⟩
              case round =>
                obtain ⟨k, hk, rfl, G⟩ := hrel
                have hNw : N ≤ wr.heap.size := by have := G.out.size; have := HNN.out; omega
                by_cases hlt : k < IL.length
                · have hlt2 : (k : Int) < (IL.length : Int) := by omega
                  obtain ⟨x, hx⟩ : ∃ x, IL[k]? = some x := ⟨_, List.getElem?_eq_getElem hlt⟩
                  have HRw := R11.out.ext (HNN.out ▸ G.out)
                  obtain ⟨g, o, rfl⟩ := PcAt.some HRw hx
                  obtain ⟨q0, q1, q2, q3, q4⟩ := PcAt.get HRw hx
                  have ht := HTI.out x (List.mem_of_getElem? hx)
                  rw [ht] at q2
                  clear HRw hx ht
                  go_wp2_with fail
                  go_roundw
                  case rel => exact ⟨k + 1, by omega, by go_num, Lib.hid (G.out.alloc hNw _)⟩
                  case measure => simp [intOf]; omega
                · obtain rfl : k = IL.length := by omega
                  clear hlt
                  go_wp2_with fail
                  go_ret
                  exact ⟨rfl, GN.out.trans (G.out.mono hBN)⟩
            · have hv2 : (VE == 0) = false := by simpa using hv
              go_wp2_with fail
              go_ret
              exact ⟨rfl, G.out⟩
      · have hy2 : (XE == 0) = false := by simpa using hy
        clear HIA HIB HIC HCI hy
        obtain ⟨s0, s1⟩ := two_of HS.out
        go_wp2_with fail
        refine (HIV.out w4 HL.out (by omega)).mono ?_
        rintro e w5 ⟨⟨v, rfl, ho⟩, hb⟩
        dsimp only at ho ⊢
        obtain ⟨A10, c10, e10, hr10, _⟩ := own_formP ho
        subst e10
        clear ho
        clear s0 s1
        have G := Lib.hid (G.out.trans (hb.mono hs))
        have hs : B ≤ (World.heap w5).size := by have := G.out.size; have := HB.out; omega
        have HL := Lib.hid (HL.out.ext hb)
        have HL2 := Lib.hid (HL2.out.ext hb)
        have HS := Lib.hid (HS.out.ext hb)
        have R5 := Lib.hid (R5.out.ext hb)
        have R6 := Lib.hid (R6.out.ext hb)
        clear hb
        have R10 := Lib.hid hr10
        clear hr10
        by_cases hv : VE = 0
        · subst hv
          have hvk := HVK.out rfl
          try dsimp only at hvk
          obtain ⟨e1, e2, e3, e4, e5, e6⟩ := HII.out rfl k1n
          try dsimp only at e1 e2 e3 e5 e6
          have HCV := Lib.hid (fun W (h : PcAt W A L) (h2 : PcAt W A10 VL) => compose_any A c L A10 c10 VL W h h2 HF.out (chk_frp hvk) (by omega) (by have := (chkP_ok.1 hvk).1; omega))
          have HIK := Lib.hid (cmp_ok e1).2.2.2.2.1
          unfold RetM at HCV
          obtain ⟨⟨IL, IE⟩, hi⟩ : ∃ p, p = cmpP L VL := ⟨_, rfl⟩
          rw [← hi] at HCV HIK e1 e2 e3 e5 e6
          try dsimp only at HIK e1 e2 e3 e5 e6
          subst e1
          obtain ⟨⟨DL, DE⟩, hd⟩ : ∃ p, p = domP L := ⟨_, rfl⟩
          have HDL := Lib.hid (show DL.length ≤ 1000000 by
            have h1 := congrArg Prod.fst hd
            have h2 := joinS_len (domL L)
            have h3 := domL_len L
            have h4 : (domP L).1.length ≤ (joinS (domL L)).length := by unfold domP; split <;> simp
            rw [← h1] at h4
            simp only at h4
            omega)
          rw [← hd] at HDA e4 e6
          try dsimp only at e4 e6
          subst e4
          obtain ⟨⟨FL, FE⟩, hd2⟩ : ∃ p, p = domP IL := ⟨_, rfl⟩
          rw [← hd2] at e5 e6
          try dsimp only at e5 e6
          subst e5 e6
          have HTI := Lib.hid e3
          clear hi hd e3 hvk
          obtain ⟨s0, s1⟩ := two_of HS.out
          go_wp2_with fail
          refine (HCV.out w5 HL.out R10.out).mono ?_
          rintro e w6 ⟨⟨v, rfl, ho⟩, hb⟩
          dsimp only at ho ⊢
          obtain ⟨A11, c11, e11, hr11, _⟩ := own_formP ho
          subst e11
          clear ho
          clear s0 s1
          have G := Lib.hid (G.out.trans (hb.mono hs))
          have hs : B ≤ (World.heap w6).size := by have := G.out.size; have := HB.out; omega
          have HL := Lib.hid (HL.out.ext hb)
          have HL2 := Lib.hid (HL2.out.ext hb)
          have HS := Lib.hid (HS.out.ext hb)
          have R5 := Lib.hid (R5.out.ext hb)
          have R6 := Lib.hid (R6.out.ext hb)
          have R10 := Lib.hid (R10.out.ext hb)
          clear hb
          have R11 := Lib.hid hr11
          clear hr11
          obtain ⟨s0, s1⟩ := two_of HS.out
          go_wp2_with fail
          refine (HDA.out w6 HL.out (by omega)).mono ?_
          rintro e w7 ⟨⟨v, rfl, ho⟩, hb⟩
          dsimp only at ho ⊢
          obtain ⟨A12, c12, e12, hr12, _⟩ := own_form ho
          subst e12
          clear ho
          clear s0 s1
          have G := Lib.hid (G.out.trans (hb.mono hs))
          have hs : B ≤ (World.heap w7).size := by have := G.out.size; have := HB.out; omega
          have HL := Lib.hid (HL.out.ext hb)
          have HL2 := Lib.hid (HL2.out.ext hb)
          have HS := Lib.hid (HS.out.ext hb)
          have R5 := Lib.hid (R5.out.ext hb)
          have R6 := Lib.hid (R6.out.ext hb)
          have R10 := Lib.hid (R10.out.ext hb)
          have R11 := Lib.hid (R11.out.ext hb)
          clear hb
          have R12 := Lib.hid hr12
          clear hr12
          have HDI := Lib.hid (fun W (h : PcAt W A11 IL) => domain_any A11 c11 IL W h (chk_frp HIK.out) (by have := (chkP_ok.1 HIK.out).1; omega))
          unfold RetP at HDI
          rw [← hd2] at HDI
          clear hd2
          obtain ⟨s0, s1⟩ := two_of HS.out
          go_wp2_with fail
          refine (HDI.out w7 R11.out).mono ?_
          rintro e w8 ⟨⟨v, rfl, ho⟩, hb⟩
          dsimp only at ho ⊢
          obtain ⟨A13, c13, e13, hr13, _⟩ := own_form ho
          subst e13
          clear ho
          clear s0 s1
          have G := Lib.hid (G.out.trans (hb.mono hs))
          have hs : B ≤ (World.heap w8).size := by have := G.out.size; have := HB.out; omega
          have HL := Lib.hid (HL.out.ext hb)
          have HL2 := Lib.hid (HL2.out.ext hb)
          have HS := Lib.hid (HS.out.ext hb)
          have R5 := Lib.hid (R5.out.ext hb)
          have R6 := Lib.hid (R6.out.ext hb)
          have R10 := Lib.hid (R10.out.ext hb)
          have R11 := Lib.hid (R11.out.ext hb)
          have R12 := Lib.hid (R12.out.ext hb)
          clear hb
          have R13 := Lib.hid hr13
          clear hr13
          clear HCV HDA HDI HIV
          go_wp2_with fail
          refine (same_any A12 c12 A13 c13 FL w8 R12.out R13.out (by have := HDL.out; omega)).mono ?_
          rintro e w9 ⟨rfl, hb⟩
          have G := Lib.hid (G.out.trans (hb.mono hs))
          have hs : B ≤ (World.heap w9).size := by have := G.out.size; have := HB.out; omega
          have HL := Lib.hid (HL.out.ext hb)
          have HL2 := Lib.hid (HL2.out.ext hb)
          have HS := Lib.hid (HS.out.ext hb)
          have R5 := Lib.hid (R5.out.ext hb)
          have R6 := Lib.hid (R6.out.ext hb)
          have R10 := Lib.hid (R10.out.ext hb)
          have R11 := Lib.hid (R11.out.ext hb)
          have R12 := Lib.hid (R12.out.ext hb)
          have R13 := Lib.hid (R13.out.ext hb)
          clear hb
          go_wp2_with fail
          obtain ⟨N, hN⟩ : ∃ N, N = w9.heap.size := ⟨_, rfl⟩
          have HNN := Lib.hid hN
          have hBN : B ≤ N := by omega
          have GN := G
          clear hN
          go_loopw [152] (fun i wr => ∃ k : Nat, k ≤ IL.length ∧ i = .int .i64 k ∧ Hid (Below N w9 wr)) (fun i _ => IL.length - (intOf i).toNat)
          case atStart => exact ⟨0, by omega, rfl, Lib.hid (HNN.out ▸ Below.refl _ _)⟩
          case round =>
            obtain ⟨k, hk, rfl, G⟩ := hrel
            have hNw : N ≤ wr.heap.size := by have := G.out.size; have := HNN.out; omega
            by_cases hlt : k < IL.length
            · have hlt2 : (k : Int) < (IL.length : Int) := by omega
              obtain ⟨x, hx⟩ : ∃ x, IL[k]? = some x := ⟨_, List.getElem?_eq_getElem hlt⟩
              have HRw := R11.out.ext (HNN.out ▸ G.out)
              obtain ⟨g, o, rfl⟩ := PcAt.some HRw hx
              obtain ⟨q0, q1, q2, q3, q4⟩ := PcAt.get HRw hx
              have ht := HTI.out x (List.mem_of_getElem? hx)
              rw [ht] at q2
              clear HRw hx ht
              go_wp2_with fail
              go_roundw
              case rel => exact ⟨k + 1, by omega, by go_num, Lib.hid (G.out.alloc hNw _)⟩
              case measure => simp [intOf]; omega
            · obtain rfl : k = IL.length := by omega
              clear hlt
              go_wp2_with fail
              go_ret
              exact ⟨rfl, GN.out.trans (G.out.mono hBN)⟩
        · have hv2 : (VE == 0) = false := by simpa using hv
          go_wp2_with fail
          go_ret
          exact ⟨rfl, G.out⟩
    · have hx2 : (CE == 0) = false := by simpa using hx
      go_wp2_with fail
      go_ret
      exact ⟨rfl, G.out⟩
  · by_cases h9 : L.length ≤ 20
    · have k1 : (L.length : Int) ≤ 20 := by omega
      have k2 : (20 : Int) < (L2.length : Int) := by omega
      clear h8
      go_wp2_with fail
      go_ret
      exact ⟨rfl, G.out⟩
    · have k1 : (20 : Int) < (L.length : Int) := by omega
      clear h8
      go_wp2_with fail
      go_ret
      exact ⟨rfl, G.out⟩
end Go.Proofs.YtfifeglkogablaaGreatDoor

