/-
  The contract of the law LockFences. Its conditions are its hypotheses.
-/
import Derived.Test.YtmadiakafeofeaaDoorLT
import Derived.Test.YtmadiakafeofeaaDoorAc
namespace Go.Proofs.YtmadiakafeofeaaDoor
open Go.RowKit Go.Joins
set_option linter.unusedVariables false
set_option linter.unusedSimpArgs false
def tF (n : Int) (l : List Int) : Tb := ⟨0, n, 0, l, []⟩
theorem fen_o1 : openR tb0 0 = (tF 1 [1], 1, 0) := by kernel_rfl
theorem fen_o2 : openR (tF 1 [1]) 0 = (tF 2 [1, 2], 2, 0) := by kernel_rfl
theorem fen_o3 : openR (tF 2 [1, 2]) 0 = (tF 3 [1, 2, 3], 3, 0) := by kernel_rfl
theorem fen_inv : InvF 0 (tF 3 [1, 2, 3]) (fun _ => none) :=
  ⟨rfl, asc_nil, Nat.le_refl _, (fun x hx => by cases hx), (fun _ _ _ h => by cases h), Int.le_refl _, Int.le_refl _, rfl⟩
/-- What a round of the loop begins with. -/
structure Rnd (D : Nat) (w : World) (B M k : Nat) (nw : Int) (T : Tb) (F : Last) (s l : Value) (wr : World) : Prop where
  n0 : 0 ≤ nw
  n1 : nw ≤ k * 255
  now : T.now ≤ nw
  inv : InvF k T F
  rep : Rep B B s l T wr
  map : MapF wr M k F
  out : Out B s l wr M
  bel : Below D w wr
theorem InvF.mono {k : Nat} {T : Tb} {F : Last} (h : InvF k T F) : InvF (k + 1) T F :=
  ⟨h.ses, h.asc, Nat.le_succ_of_le h.len, h.lea, h.fen, h.lf0, by have := h.lfk; omega, h.ls⟩
theorem MapF.mono {w : World} {b n : Nat} {F : Last} (h : MapF w b n F) : MapF w b (n + 1) F := by
  obtain ⟨D, h1, h2⟩ := h
  exact ⟨D, h1.mono (Nat.le_succ n), h2⟩
/-- What holds from Take to the round's end. -/
structure Aft (D : Nat) (w : World) (B M k : Nat) (nw : Int) (T : Tb) (F : Last) (s l : Value) (wr : World) : Prop where
  live : Live T nw
  inv : InvF k T F
  rep : Rep B B s l T wr
  map : MapF wr M k F
  out : Out B s l wr M
  bel : Below D w wr
theorem Aft.ext {D : Nat} {w : World} {B M k : Nat} {nw : Int} {T : Tb} {F : Last} {s l : Value} {w1 w2 : World} (h : Aft D w B M k nw T F s l w1) (hb : Below w1.heap.size w1 w2) (hDB : D ≤ B) : Aft D w B M k nw T F s l w2 :=
  ⟨h.live, h.inv, h.rep.ext hb, h.map.of_heap (hb.block M h.out.1), ⟨Nat.lt_of_lt_of_le h.out.1 hb.size, h.out.2⟩, h.bel.trans (hb.mono (by have := h.rep.lt; omega))⟩
theorem Aft.rnd {D : Nat} {w : World} {B M k : Nat} {nw : Int} {T : Tb} {F : Last} {s l : Value} {w1 : World} (h : Aft D w B M k nw T F s l w1) (h0 : 0 ≤ nw) (h1 : nw ≤ k * 255) : Rnd D w B M k nw T F s l w1 :=
  ⟨h0, h1, Int.le_of_eq h.live.1, h.inv, h.rep, h.map, h.out, h.bel⟩
theorem Aft.met {D : Nat} {w : World} {B M k : Nat} {nw : Int} {T : Tb} {F : Last} {s l s2 l2 : Value} {w1 w2 : World} (h : Aft D w B M k nw T F s l w1) (h2 : Rep B B s2 l2 T w2) (f : FrT B B s l w1 s2 l2 w2) (hDB : D ≤ B) : Aft D w B M k nw T F s2 l2 w2 :=
  ⟨h.live, h.inv, h2, h.map.of_heap (f.heap h.out), f.out h.out, h.bel.trans (f.below.mono hDB)⟩
theorem Rep.grownM {B M : Nat} {T : Tb} {s l : Value} {w w' : World} (h : Rep B B s l T w) (ho : Out B s l w M) (hg : w.grownBy w' (some M)) : Rep B B s l T w' ∧ Out B s l w' M := by
  obtain ⟨h1, h2, h3, h4⟩ := ho
  refine ⟨⟨h.1, (hg.block B h.lt (fun e => h2 (by cases e; rfl))).trans h.2.1, own_same h.2.2.1 (fun g e => hg.block g (h.2.2.1.lt g e).2 (fun e' => h3 (by cases e'; exact e))), own_same h.2.2.2 (fun g e => hg.block g (h.2.2.2.lt g e).2 (fun e' => h4 (by cases e'; exact e)))⟩, ⟨Nat.lt_of_lt_of_le h1 hg.size, h2, h3, h4⟩⟩
set_option maxRecDepth 100000 in
set_option maxHeartbeats 8000000 in
theorem fences_law (v : Value) (n : Nat) (w : World) (ha : ActsAt w w.heap.size v n) (ht : Tab w) :
    Calls Tryd.prog 3 #[v] w fun e w' => e = .returned (.bool true) ∧ Below w.heap.size w w' := by
  obtain ⟨hn, SA, c, rfl, hact⟩ := ha
  have HT := Lib.hid ht
  have HACT := Lib.hid hact
  clear ht hact
  obtain ⟨D, hD⟩ : ∃ D, D = w.heap.size := ⟨_, rfl⟩
  rw [← hD] at HACT ⊢
  have HDD := Lib.hid hD
  clear hD
  have hmm := @run_makeMap Tryd.prog
  go_enter Tryd.func3, Tryd.ntmps3
  go_wp2_with fail
  refine (awake_any w HT.out).mono ?_
  rintro e w1 ⟨rfl, hb⟩
  have G1 := Lib.hid (show Below D w w1 from HDD.out ▸ hb)
  clear hb
  go_wp2_with fail
  refine (new_any w1).mono ?_
  rintro e w2 ⟨rfl, h2, b2, hz2⟩
  obtain ⟨B, hB⟩ : ∃ B, B = w1.heap.size := ⟨_, rfl⟩
  rw [← hB] at h2 b2 ⊢
  have hDB : D ≤ B := by rw [hB, HDD.out]; exact G1.out.size
  have H2 := Lib.hid h2
  have G2 := Lib.hid (show Below D w w2 from G1.out.trans (b2.mono hDB))
  clear h2 b2 hz2 hB
  go_wp2_with fail
  refine (open_any B B _ _ tb0 0 w2 H2.out (by decide) (by decide) (by decide)).mono ?_
  rintro e w3 ⟨rfl, s3, l3, h3, f3⟩
  rw [fen_o1] at h3 ⊢
  have H3 := Lib.hid h3
  have G3 := Lib.hid (G2.out.trans (f3.below.mono hDB))
  clear h3 f3
  go_wp2_with fail
  refine (open_any B B _ _ (tF 1 [1]) 0 w3 H3.out (by decide) (by decide) (by decide)).mono ?_
  rintro e w4 ⟨rfl, s4, l4, h4, f4⟩
  rw [fen_o2] at h4 ⊢
  have H4 := Lib.hid h4
  have G4 := Lib.hid (G3.out.trans (f4.below.mono hDB))
  clear h4 f4
  go_wp2_with fail
  refine (open_any B B _ _ (tF 2 [1, 2]) 0 w4 H4.out (by decide) (by decide) (by decide)).mono ?_
  rintro e w5 ⟨rfl, s5, l5, h5, f5⟩
  rw [fen_o3] at h5 ⊢
  have H5 := Lib.hid h5
  have G5 := Lib.hid (G4.out.trans (f5.below.mono hDB))
  clear h5 f5
  go_wp2_with fail
  obtain ⟨M, hM⟩ : ∃ M, M = w5.heap.size := ⟨_, rfl⟩
  rw [← hM]
  generalize hw6 : World.alloc w5 _ = w6
  have hr6 : Rnd D w B M 0 0 (tF 3 [1, 2, 3]) (fun _ => none) s5 l5 w6 := by
    subst hw6
    have hb := below_one w5 (.map #[] 0)
    exact ⟨by decide, by decide, by decide, fen_inv, H5.out.ext hb, hM ▸ MapF.made w5, H5.out.out_new (by omega) (by rw [hM]; show w5.heap.size < (w5.heap.push _).size; simp), G5.out.trans (hb.mono (by have := H5.out.lt; omega))⟩
  have hDM : D ≤ M := by have := H5.out.lt; omega
  have R6 := Lib.hid hr6
  clear hr6 hw6 hM G1 G2 G3 G4 G5 H2 H3 H4 H5 hmm
  go_loopw [4, 5, 7] (fun a b i wr => ∃ (k : Nat) (nw : Int) (T : Tb) (F : Last) (s l : Value), k ≤ 24 ∧ k ≤ n ∧ a = .int .i64 nw ∧ b = .int .i64 T.lf ∧ i = .int .i64 k ∧ Hid (Rnd D w B M k nw T F s l wr)) (fun _ _ i _ => 24 - (intOf i).toNat)
  case atStart => exact ⟨0, 0, _, _, s5, l5, by omega, by omega, rfl, rfl, rfl, R6⟩
  case round =>
    obtain ⟨k, nw, T, F, s, l, hk, hkn, rfl, rfl, rfl, RR⟩ := hrel
    by_cases hlt : k < 24 ∧ k < n
    · obtain ⟨h24, hkn'⟩ := hlt
      obtain ⟨b, o, x, rfl, hb, hcell⟩ := HACT.out k hkn'
      obtain ⟨q0, q1, q2, q3, q4, q5⟩ := acts_cells hcell hb RR.out.bel
      obtain ⟨a0, a1⟩ := and_bd x.l 255 (by decide)
      obtain ⟨c0, c1⟩ := and_bd x.u 3 (by decide)
      obtain ⟨d0, d1⟩ := and_bd x.f 255 (by decide)
      rw [show ((255 : Nat) : Int) = 255 from rfl] at a0 a1 d0 d1
      rw [show ((3 : Nat) : Int) = 3 from rfl] at c0 c1
      have hn0 := RR.out.n0
      have hn1 := RR.out.n1
      have hr : Int.tmod (bits BinOp.and IntKind.i64 x.f 255) 3 = 0 ∨ Int.tmod (bits BinOp.and IntKind.i64 x.f 255) 3 = 1 ∨ Int.tmod (bits BinOp.and IntKind.i64 x.f 255) 3 = 2 := by
        rw [Int.tmod_eq_emod_of_nonneg d0]
        omega
      have w1' : IntKind.i64.wrap (nw + bits BinOp.and IntKind.i64 x.l 255) = nw + bits BinOp.and IntKind.i64 x.l 255 := by rw [IntKind.wrap_i64]; omega
      have w2' : IntKind.i64.wrap (bits BinOp.and IntKind.i64 x.u 3 + 1) = bits BinOp.and IntKind.i64 x.u 3 + 1 := by rw [IntKind.wrap_i64]; omega
      have hnow := RR.out.now
      have hinv := RR.out.inv
      have hi1 := hinv.len
      have hi2 := hinv.lf0
      have hi3 := hinv.lfk
      have hs4 : ¬ (3 < bits BinOp.and IntKind.i64 x.u 3 + 1 ∧ bits BinOp.and IntKind.i64 x.u 3 + 1 ≤ 3) := by omega
      clear hinv
      rcases hr with hr | hr | hr
      all_goals
        go_wp2_with fail
        generalize hw1 : World.alloc (World.alloc wr _) _ = w1
        have hb1 : Below wr.heap.size wr w1 := by subst hw1; exact (below_one wr _).trans ((below_one _ _).mono (by show wr.heap.size ≤ (wr.heap.push _).size; simp))
        first
          | (rw [show (ByteArray.mk #[65]) = sB [65] from rfl]; have hrl : ([65] : List UInt8).length ≤ 20 := (by decide); generalize ([65] : List UInt8) = reel at hrl ⊢)
          | (rw [show (ByteArray.mk #[66]) = sB [66] from rfl]; have hrl : ([66] : List UInt8).length ≤ 20 := (by decide); generalize ([66] : List UInt8) = reel at hrl ⊢)
          | (rw [show (ByteArray.mk #[67]) = sB [67] from rfl]; have hrl : ([67] : List UInt8).length ≤ 20 := (by decide); generalize ([67] : List UInt8) = reel at hrl ⊢)
        have R1 := Lib.hid (RR.out.rep.ext hb1)
        have M1 := Lib.hid (RR.out.map.of_heap (hb1.block M RR.out.out.1))
        have O1 := Lib.hid (show Out B s l w1 M from ⟨Nat.lt_of_lt_of_le RR.out.out.1 hb1.size, RR.out.out.2⟩)
        have G1 := Lib.hid (RR.out.bel.trans (hb1.mono (by have := RR.out.rep.lt; omega)))
        have I1 := Lib.hid RR.out.inv
        clear hw1 hb1 hr q0 q1 q2 q3 q4 q5 w1' w2' hcell hb d0 d1 RR
        generalize hN : nw + bits BinOp.and IntKind.i64 x.l 255 = nw1 at *
        generalize bits BinOp.and IntKind.i64 x.l 255 = a at *
        generalize bits BinOp.and IntKind.i64 x.u 3 = u at *
        have hS := Lib.hid I1.out.ses
        refine (take_any B B s l T nw1 (u + 1) reel w1 R1.out I1.out.asc (by omega) (by rw [hS.out]; decide) hi2 (by omega)).mono ?_
        rintro e w2 ⟨rfl, s2, l2, h2, f2⟩
        rcases take_cases (s := u + 1) (reel := reel) I1.out (show 0 ≤ nw1 by omega) (by omega) (by omega) with ⟨e, he, ht⟩ | ⟨T', ht, hs3, hinv', hlive, hlf, hold⟩
        · rw [ht] at h2 ⊢
          obtain ⟨U, hU⟩ : ∃ U : Tb, U = { T with now := nw1, lea := alive nw1 T.lea } := ⟨_, rfl⟩
          have hlf : U.lf = T.lf := by rw [hU]
          have A2 := Lib.hid (show Aft D w B M (k + 1) nw1 U F s2 l2 w2 from hU ▸ ⟨(inv_told (now := nw1) I1.out).2, (inv_told (now := nw1) I1.out).1.mono, h2, (M1.out.of_heap (f2.heap O1.out)).mono, f2.out O1.out, G1.out.trans (f2.below.mono hDB)⟩)
          clear h2 f2 ht R1 M1 O1 G1 I1 hU
          go_wp2_with fail
          refine (holder_any B B s2 l2 U nw1 reel w2 A2.out.rep A2.out.inv.asc (by have := A2.out.inv.len; omega)).mono ?_
          rintro e3 w3 ⟨rfl, hb⟩
          have A3 := Lib.hid (A2.out.ext hb hDB)
          clear hb A2
          cases hh : fhas reel U.lea with
          | false =>
            rw [none_hold hh]
            unfold lsA ls0
            clear hh
            go_wp2_with fail
            go_roundw
            case rel => exact ⟨k + 1, nw1, U, F, s2, l2, by omega, by omega, rfl, by rw [hlf], by go_num, Lib.hid ((A3.out.ext (below_one _ _) hDB).rnd (by omega) (by omega))⟩
            case measure => simp [intOf]; omega
          | true =>
            obtain ⟨x2, hx2, hxr⟩ := fhas_some hh
            have hF := A3.out.inv.lea x2 (List.mem_of_getElem? hx2)
            rw [hxr] at hF
            obtain ⟨hF, g1, g3⟩ := hF
            obtain ⟨f1, f3⟩ := A3.out.inv.fen reel _ _ hF
            have f4 := A3.out.inv.lfk
            have HE := Lib.hid (fun (s' f' : Int) => live_held (s := s') (f := f') A3.out.live (show 0 ≤ nw1 by omega) (by omega) hh hx2)
            have HTL := Lib.hid (told_live A3.out.live (show 0 ≤ nw1 by omega) (by omega)).2
            rw [live_hold A3.out.live hh hx2]
            unfold lsA
            rw [hxr]
            generalize x2.ses = xs at *
            generalize x2.fen = xf at *
            generalize x2.unt = xu at *
            have p1 : IntKind.i64.wrap (Int.tmod xs 3 + 1) = Int.tmod xs 3 + 1 := by rw [IntKind.wrap_i64, Int.tmod_eq_emod_of_nonneg (by omega)]; omega
            have p2 : IntKind.i64.wrap (xf - 1) = xf - 1 := by rw [IntKind.wrap_i64]; omega
            have p3 : ¬ (xs = Int.tmod xs 3 + 1 ∧ xf = xf) := by rw [Int.tmod_eq_emod_of_nonneg (by omega)]; omega
            have p4 : ¬ (xs = xs ∧ xf = xf - 1) := by omega
            have HFF := Lib.hid hF
            clear hh hx2 hxr hF
            go_wp2_with fail
            generalize hw4 : World.alloc w3 _ = w4
            have HB4 := Lib.hid (show Held w4 w3.heap.size [.string (sB reel), .int .i64 xs, .int .i64 xf, .int .i64 xu] by subst hw4; exact Held.new rfl)
            have OB4 := Lib.hid (A3.out.rep.out_new (g := w3.heap.size) (w' := w4) (Nat.le_refl _) (by subst hw4; show _ < (w3.heap.push _).size; simp))
            have A4 := Lib.hid (A3.out.ext (hw4 ▸ below_one w3 _) hDB)
            clear hw4 A3
            refine (check_any B B s2 l2 U nw1 xs reel xf w4 A4.out.rep A4.out.inv.asc (by have := A4.out.inv.len; omega)).mono ?_
            rintro e4 wa ⟨rfl, sa, la, ha, fa⟩
            rw [HTL.out] at ha
            rw [HE.out, if_pos ⟨rfl, rfl⟩]
            have A5 := Lib.hid (A4.out.met ha fa hDB)
            have HB5 := Lib.hid (fa.held HB4.out OB4.out)
            have OB5 := Lib.hid (fa.out OB4.out)
            clear ha fa A4 HB4 OB4
            have q := HB5.out.cell
            go_wp2_with fail
            clear q
            refine (check_any B B sa la U nw1 _ reel xf wa A5.out.rep A5.out.inv.asc (by have := A5.out.inv.len; omega)).mono ?_
            rintro e5 wb ⟨rfl, sb, lb, hb, fb⟩
            rw [HTL.out] at hb
            rw [HE.out, if_neg (by omega)]
            have A6 := Lib.hid (A5.out.met hb fb hDB)
            have HB6 := Lib.hid (fb.held HB5.out OB5.out)
            have OB6 := Lib.hid (fb.out OB5.out)
            clear hb fb A5 HB5 OB5
            have q := HB6.out.cell
            go_wp2_with fail
            clear q
            refine (check_any B B sb lb U nw1 xs reel _ wb A6.out.rep A6.out.inv.asc (by have := A6.out.inv.len; omega)).mono ?_
            rintro e6 wc ⟨rfl, sc, lc, hc, fc⟩
            rw [HTL.out] at hc
            rw [HE.out, if_neg (by omega)]
            have A7 := Lib.hid (A6.out.met hc fc hDB)
            have HB7 := Lib.hid (fc.held HB6.out OB6.out)
            clear hc fc A6 HB6 OB6 HE HTL
            have q := HB7.out.cell
            have hlk7 := A7.out.map.look false (s := sB reel) (by rw [sB_size]; unfold maxLen; omega)
            rw [sB_list, HFF.out] at hlk7
            simp only [Bool.false_eq_true, if_false] at hlk7
            unfold elV at hlk7
            clear HB7 HFF
            go_wp2_with fail
            clear q hlk7
            go_roundw
            case rel => exact ⟨k + 1, nw1, U, F, sc, lc, by omega, by omega, rfl, by rw [hlf], by go_num, Lib.hid (A7.out.rnd (by omega) (by omega))⟩
            case measure => simp [intOf]; omega
        · have hs5 : ¬ (T.lf + 1 ≤ T.lf) := by omega
          have hs6 : ¬ (3 < u + 1) := by simp at hs3; omega
          obtain ⟨F', hF'⟩ : ∃ F', F' = setF F reel (u + 1, T.lf + 1) := ⟨_, rfl⟩
          rw [← hF'] at hinv'
          rw [ht] at h2 ⊢
          have R2 := Lib.hid (show Rep B B s2 l2 T' w2 from h2)
          have M2 := Lib.hid (M1.out.of_heap (f2.heap O1.out))
          have O2 := Lib.hid (f2.out O1.out)
          have G2 := Lib.hid (G1.out.trans (f2.below.mono hDB))
          have I2 := Lib.hid hinv'
          have L2 := Lib.hid hlive
          have HO2 := Lib.hid hold
          have HS := Lib.hid hs3
          have HF' := Lib.hid hF'
          have HLF := Lib.hid hlf
          clear h2 f2 ht R1 M1 O1 G1 I1 hinv' hlive hold hs3 hF' hlf
          have hsz : (sB reel).size ≤ maxLen := by rw [sB_size]; unfold maxLen; omega
          have hlk := M2.out.look true hsz
          rw [sB_list] at hlk
          simp only [if_true] at hlk
          dsimp only
          cases hFr : F reel with
          | none =>
            rw [hFr] at hlk
            simp only [Option.isSome_none] at hlk
            unfold elV at hlk
            clear hFr
            go_wp2_with (first
              | (at_mapUpdate; refine wpList_putF rfl _ _ _ rfl rfl (M2.out.of_heap ((below_one w2 _).block M O2.out.1)) (by unfold maxLen; omega) (sB reel) hsz (u + 1) (T.lf + 1) rfl rfl ?_; intro wm hm hg)
              | fail)
            rw [sB_list, ← HF'.out] at hm
            have hb3 := below_one w2 (.cells #[.int .i64 0, .int .i64 0] 35)
            obtain ⟨r3, o3⟩ := ((R2.out.ext hb3).grownM (M := M) ⟨Nat.lt_of_lt_of_le O2.out.1 hb3.size, O2.out.2⟩ hg)
            have A2 := Lib.hid (show Aft D w B M (k + 1) nw1 T' F' s2 l2 wm from ⟨L2.out, I2.out, r3, hm, o3, (G2.out.trans (hb3.mono (by have := R2.out.lt; omega))).grown hg (Nat.le_trans (Nat.le_of_eq HDD.out) (Nat.le_trans G2.out.size hb3.size)) (fun k e => by cases e; exact hDM)⟩)
            clear hb3 r3 o3 hm hg R2 M2 O2 G2 hlk
            have hlf := HLF.out
            clear L2 I2 HO2 HS HF' HLF
            go_wp2_with fail
            refine (holder_any B B s2 l2 T' nw1 reel wm A2.out.rep A2.out.inv.asc (by have := A2.out.inv.len; omega)).mono ?_
            rintro e3 w3 ⟨rfl, hb⟩
            have A3 := Lib.hid (A2.out.ext hb hDB)
            clear hb A2
            cases hh : fhas reel T'.lea with
            | false =>
              rw [none_hold hh]
              unfold lsA ls0
              clear hh
              go_wp2_with fail
              go_roundw
              case rel => exact ⟨k + 1, nw1, T', F', s2, l2, by omega, by omega, rfl, by rw [hlf], by go_num, Lib.hid ((A3.out.ext (below_one _ _) hDB).rnd (by omega) (by omega))⟩
              case measure => simp [intOf]; omega
            | true =>
              obtain ⟨x2, hx2, hxr⟩ := fhas_some hh
              have hF := A3.out.inv.lea x2 (List.mem_of_getElem? hx2)
              rw [hxr] at hF
              obtain ⟨hF, g1, g3⟩ := hF
              obtain ⟨f1, f3⟩ := A3.out.inv.fen reel _ _ hF
              have f4 := A3.out.inv.lfk
              have HE := Lib.hid (fun (s' f' : Int) => live_held (s := s') (f := f') A3.out.live (show 0 ≤ nw1 by omega) (by omega) hh hx2)
              have HTL := Lib.hid (told_live A3.out.live (show 0 ≤ nw1 by omega) (by omega)).2
              rw [live_hold A3.out.live hh hx2]
              unfold lsA
              rw [hxr]
              generalize x2.ses = xs at *
              generalize x2.fen = xf at *
              generalize x2.unt = xu at *
              have p1 : IntKind.i64.wrap (Int.tmod xs 3 + 1) = Int.tmod xs 3 + 1 := by rw [IntKind.wrap_i64, Int.tmod_eq_emod_of_nonneg (by omega)]; omega
              have p2 : IntKind.i64.wrap (xf - 1) = xf - 1 := by rw [IntKind.wrap_i64]; omega
              have p3 : ¬ (xs = Int.tmod xs 3 + 1 ∧ xf = xf) := by rw [Int.tmod_eq_emod_of_nonneg (by omega)]; omega
              have p4 : ¬ (xs = xs ∧ xf = xf - 1) := by omega
              have HFF := Lib.hid hF
              clear hh hx2 hxr hF
              go_wp2_with fail
              generalize hw4 : World.alloc w3 _ = w4
              have HB4 := Lib.hid (show Held w4 w3.heap.size [.string (sB reel), .int .i64 xs, .int .i64 xf, .int .i64 xu] by subst hw4; exact Held.new rfl)
              have OB4 := Lib.hid (A3.out.rep.out_new (g := w3.heap.size) (w' := w4) (Nat.le_refl _) (by subst hw4; show _ < (w3.heap.push _).size; simp))
              have A4 := Lib.hid (A3.out.ext (hw4 ▸ below_one w3 _) hDB)
              clear hw4 A3
              refine (check_any B B s2 l2 T' nw1 xs reel xf w4 A4.out.rep A4.out.inv.asc (by have := A4.out.inv.len; omega)).mono ?_
              rintro e4 wa ⟨rfl, sa, la, ha, fa⟩
              rw [HTL.out] at ha
              rw [HE.out, if_pos ⟨rfl, rfl⟩]
              have A5 := Lib.hid (A4.out.met ha fa hDB)
              have HB5 := Lib.hid (fa.held HB4.out OB4.out)
              have OB5 := Lib.hid (fa.out OB4.out)
              clear ha fa A4 HB4 OB4
              have q := HB5.out.cell
              go_wp2_with fail
              clear q
              refine (check_any B B sa la T' nw1 _ reel xf wa A5.out.rep A5.out.inv.asc (by have := A5.out.inv.len; omega)).mono ?_
              rintro e5 wb ⟨rfl, sb, lb, hb, fb⟩
              rw [HTL.out] at hb
              rw [HE.out, if_neg (by omega)]
              have A6 := Lib.hid (A5.out.met hb fb hDB)
              have HB6 := Lib.hid (fb.held HB5.out OB5.out)
              have OB6 := Lib.hid (fb.out OB5.out)
              clear hb fb A5 HB5 OB5
              have q := HB6.out.cell
              go_wp2_with fail
              clear q
              refine (check_any B B sb lb T' nw1 xs reel _ wb A6.out.rep A6.out.inv.asc (by have := A6.out.inv.len; omega)).mono ?_
              rintro e6 wc ⟨rfl, sc, lc, hc, fc⟩
              rw [HTL.out] at hc
              rw [HE.out, if_neg (by omega)]
              have A7 := Lib.hid (A6.out.met hc fc hDB)
              have HB7 := Lib.hid (fc.held HB6.out OB6.out)
              clear hc fc A6 HB6 OB6 HE HTL
              have q := HB7.out.cell
              have hlk7 := A7.out.map.look false (s := sB reel) (by rw [sB_size]; unfold maxLen; omega)
              rw [sB_list, HFF.out] at hlk7
              simp only [Bool.false_eq_true, if_false] at hlk7
              unfold elV at hlk7
              clear HB7 HFF
              go_wp2_with fail
              clear q hlk7
              go_roundw
              case rel => exact ⟨k + 1, nw1, T', F', sc, lc, by omega, by omega, rfl, by rw [hlf], by go_num, Lib.hid (A7.out.rnd (by omega) (by omega))⟩
              case measure => simp [intOf]; omega
          | some ab =>
            obtain ⟨oa, ob⟩ := ab
            rw [hFr] at hlk
            simp only [Option.isSome_some] at hlk
            unfold elV at hlk
            have HOA := Lib.hid (HO2.out oa ob hFr)
            clear hFr
            go_wp2_with fail
            generalize hw3 : World.alloc w2 _ = w3
            have HB3 := Lib.hid (show Held w3 w2.heap.size [.int .i64 oa, .int .i64 ob] by subst hw3; exact Held.new rfl)
            have OB3 := Lib.hid (R2.out.out_new (g := w2.heap.size) (w' := w3) (Nat.le_refl _) (by subst hw3; show _ < (w2.heap.push _).size; simp))
            have hb3 : Below w2.heap.size w2 w3 := hw3 ▸ below_one w2 _
            have R3 := Lib.hid (R2.out.ext hb3)
            have M3 := Lib.hid (M2.out.of_heap (hb3.block M O2.out.1))
            have O3 := Lib.hid (show Out B s2 l2 w3 M from ⟨Nat.lt_of_lt_of_le O2.out.1 hb3.size, O2.out.2⟩)
            have G3 := Lib.hid (G2.out.trans (hb3.mono (by have := R2.out.lt; omega)))
            clear hw3 hb3 R2 M2 O2 G2 hlk
            refine (check_any B B s2 l2 T' nw1 oa reel ob w3 R3.out I2.out.asc (by have := I2.out.len; omega)).mono ?_
            rintro e4 w4 ⟨rfl, s4, l4, h4, f4⟩
            rw [HOA.out]
            rw [(told_live L2.out (show 0 ≤ nw1 by omega) (by omega)).2] at h4
            have R4 := Lib.hid h4
            have M4 := Lib.hid (M3.out.of_heap (f4.heap O3.out))
            have O4 := Lib.hid (f4.out O3.out)
            have G4 := Lib.hid (G3.out.trans (f4.below.mono hDB))
            clear h4 f4 R3 M3 O3 G3 HOA HB3 OB3
            go_wp2_with (first
              | (at_mapUpdate; refine wpList_putF rfl _ _ _ rfl rfl M4.out (by unfold maxLen; omega) (sB reel) hsz (u + 1) (T.lf + 1) rfl rfl ?_; intro wm hm hg)
              | fail)
            rw [sB_list, ← HF'.out] at hm
            obtain ⟨r3, o3⟩ := R4.out.grownM O4.out hg
            have A2 := Lib.hid (show Aft D w B M (k + 1) nw1 T' F' s4 l4 wm from ⟨L2.out, I2.out, r3, hm, o3, G4.out.grown hg (Nat.le_trans (Nat.le_of_eq HDD.out) G4.out.size) (fun k e => by cases e; exact hDM)⟩)
            clear r3 o3 hm hg R4 M4 O4 G4
            have hlf := HLF.out
            clear L2 I2 HO2 HS HF' HLF
            go_wp2_with fail
            refine (holder_any B B s4 l4 T' nw1 reel wm A2.out.rep A2.out.inv.asc (by have := A2.out.inv.len; omega)).mono ?_
            rintro e3 w3 ⟨rfl, hb⟩
            have A3 := Lib.hid (A2.out.ext hb hDB)
            clear hb A2
            cases hh : fhas reel T'.lea with
            | false =>
              rw [none_hold hh]
              unfold lsA ls0
              clear hh
              go_wp2_with fail
              go_roundw
              case rel => exact ⟨k + 1, nw1, T', F', s4, l4, by omega, by omega, rfl, by rw [hlf], by go_num, Lib.hid ((A3.out.ext (below_one _ _) hDB).rnd (by omega) (by omega))⟩
              case measure => simp [intOf]; omega
            | true =>
              obtain ⟨x2, hx2, hxr⟩ := fhas_some hh
              have hF := A3.out.inv.lea x2 (List.mem_of_getElem? hx2)
              rw [hxr] at hF
              obtain ⟨hF, g1, g3⟩ := hF
              obtain ⟨f1, f3⟩ := A3.out.inv.fen reel _ _ hF
              have f4 := A3.out.inv.lfk
              have HE := Lib.hid (fun (s' f' : Int) => live_held (s := s') (f := f') A3.out.live (show 0 ≤ nw1 by omega) (by omega) hh hx2)
              have HTL := Lib.hid (told_live A3.out.live (show 0 ≤ nw1 by omega) (by omega)).2
              rw [live_hold A3.out.live hh hx2]
              unfold lsA
              rw [hxr]
              generalize x2.ses = xs at *
              generalize x2.fen = xf at *
              generalize x2.unt = xu at *
              have p1 : IntKind.i64.wrap (Int.tmod xs 3 + 1) = Int.tmod xs 3 + 1 := by rw [IntKind.wrap_i64, Int.tmod_eq_emod_of_nonneg (by omega)]; omega
              have p2 : IntKind.i64.wrap (xf - 1) = xf - 1 := by rw [IntKind.wrap_i64]; omega
              have p3 : ¬ (xs = Int.tmod xs 3 + 1 ∧ xf = xf) := by rw [Int.tmod_eq_emod_of_nonneg (by omega)]; omega
              have p4 : ¬ (xs = xs ∧ xf = xf - 1) := by omega
              have HFF := Lib.hid hF
              clear hh hx2 hxr hF
              go_wp2_with fail
              generalize hw4 : World.alloc w3 _ = w4
              have HB4 := Lib.hid (show Held w4 w3.heap.size [.string (sB reel), .int .i64 xs, .int .i64 xf, .int .i64 xu] by subst hw4; exact Held.new rfl)
              have OB4 := Lib.hid (A3.out.rep.out_new (g := w3.heap.size) (w' := w4) (Nat.le_refl _) (by subst hw4; show _ < (w3.heap.push _).size; simp))
              have A4 := Lib.hid (A3.out.ext (hw4 ▸ below_one w3 _) hDB)
              clear hw4 A3
              refine (check_any B B s4 l4 T' nw1 xs reel xf w4 A4.out.rep A4.out.inv.asc (by have := A4.out.inv.len; omega)).mono ?_
              rintro e4 wa ⟨rfl, sa, la, ha, fa⟩
              rw [HTL.out] at ha
              rw [HE.out, if_pos ⟨rfl, rfl⟩]
              have A5 := Lib.hid (A4.out.met ha fa hDB)
              have HB5 := Lib.hid (fa.held HB4.out OB4.out)
              have OB5 := Lib.hid (fa.out OB4.out)
              clear ha fa A4 HB4 OB4
              have q := HB5.out.cell
              go_wp2_with fail
              clear q
              refine (check_any B B sa la T' nw1 _ reel xf wa A5.out.rep A5.out.inv.asc (by have := A5.out.inv.len; omega)).mono ?_
              rintro e5 wb ⟨rfl, sb, lb, hb, fb⟩
              rw [HTL.out] at hb
              rw [HE.out, if_neg (by omega)]
              have A6 := Lib.hid (A5.out.met hb fb hDB)
              have HB6 := Lib.hid (fb.held HB5.out OB5.out)
              have OB6 := Lib.hid (fb.out OB5.out)
              clear hb fb A5 HB5 OB5
              have q := HB6.out.cell
              go_wp2_with fail
              clear q
              refine (check_any B B sb lb T' nw1 xs reel _ wb A6.out.rep A6.out.inv.asc (by have := A6.out.inv.len; omega)).mono ?_
              rintro e6 wc ⟨rfl, sc, lc, hc, fc⟩
              rw [HTL.out] at hc
              rw [HE.out, if_neg (by omega)]
              have A7 := Lib.hid (A6.out.met hc fc hDB)
              have HB7 := Lib.hid (fc.held HB6.out OB6.out)
              clear hc fc A6 HB6 OB6 HE HTL
              have q := HB7.out.cell
              have hlk7 := A7.out.map.look false (s := sB reel) (by rw [sB_size]; unfold maxLen; omega)
              rw [sB_list, HFF.out] at hlk7
              simp only [Bool.false_eq_true, if_false] at hlk7
              unfold elV at hlk7
              clear HB7 HFF
              go_wp2_with fail
              clear q hlk7
              go_roundw
              case rel => exact ⟨k + 1, nw1, T', F', sc, lc, by omega, by omega, rfl, by rw [hlf], by go_num, Lib.hid (A7.out.rnd (by omega) (by omega))⟩
              case measure => simp [intOf]; omega
    · by_cases h1 : k < n
      · have h2 : ¬ ((k : Int) < 24) := by omega
        have h1' : ((k : Int) < (n : Int)) := by omega
        go_wp2_with fail
        go_ret
        exact ⟨rfl, RR.out.bel⟩
      · have h1' : ¬ ((k : Int) < (n : Int)) := by omega
        go_wp2_with fail
        go_ret
        exact ⟨rfl, RR.out.bel⟩
end Go.Proofs.YtmadiakafeofeaaDoor
