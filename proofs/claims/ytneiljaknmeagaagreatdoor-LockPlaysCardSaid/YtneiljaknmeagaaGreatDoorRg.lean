/-
  The contract of Renew in the reference. Its conditions are its hypotheses.
-/
import Derived.Test.YtneiljaknmeagaaGreatDoorBi
import Derived.Test.YtneiljaknmeagaaGreatDoorM5
import Derived.Test.YtneiljaknmeagaaGreatDoorBa
namespace Go.Proofs.YtneiljaknmeagaaGreatDoor
open Go.RowKit Go.Joins
set_option linter.unusedVariables false
set_option linter.unusedSimpArgs false
theorem put5 {w : World} {D g : Nat} (h : g ≠ D) (a b c d e : Value) : (((((w.setCell ⟨D, 0, none⟩ a).setCell ⟨D, 1, none⟩ b).setCell ⟨D, 2, none⟩ c).setCell ⟨D, 3, none⟩ d).setCell ⟨D, 4, none⟩ e).heap[g]? = w.heap[g]? :=
  (Below.heap_setCell _ ⟨D, 4, none⟩ e g h).trans ((Below.heap_setCell _ ⟨D, 3, none⟩ d g h).trans ((Below.heap_setCell _ ⟨D, 2, none⟩ c g h).trans ((Below.heap_setCell _ ⟨D, 1, none⟩ b g h).trans (Below.heap_setCell _ ⟨D, 0, none⟩ a g h))))
theorem RBox.grown {D : Nat} {w : World} {bx rs : List Value} {w1 w2 : World} {row : Option Nat} (h : RBox D w bx rs w1) (hg : w1.grownBy w2 row) (hr : ∀ k, row = some k → D + 1 < k) : RBox D w bx rs w2 := by
  obtain ⟨⟨t, h1⟩, ⟨u, h2⟩, h3⟩ := h
  have l1 := (Array.getElem?_eq_some_iff.1 h1).1
  have l2 := (Array.getElem?_eq_some_iff.1 h2).1
  exact ⟨⟨t, (hg.block D l1 (fun e => by have := hr D e.symm; omega)).trans h1⟩, ⟨u, (hg.block (D + 1) l2 (fun e => by have := hr (D + 1) e.symm; omega)).trans h2⟩, h3.grown hg (by omega) (fun k hk => by have := hr k hk; omega)⟩
theorem RBox.setFar {D : Nat} {w : World} {bx rs : List Value} {w1 : World} (h : RBox D w bx rs w1) {g : Nat} (hg : D + 1 < g) (i : Nat) (v : Value) : RBox D w bx rs (w1.setCell ⟨g, i, none⟩ v) :=
  ⟨h.box.other (by omega) i v, h.res.other (by omega) i v, h.bel.setCell (p := ⟨g, i, none⟩) (by simp; omega) v⟩
theorem RefN.kept {N : Nat → Prop} {T : Tb} {sv lv : Value} {w w' : World} (h : RefN N T sv lv w) (hk : ∀ b, b < w.heap.size → ¬ N b → w'.heap[b]? = w.heap[b]?) : RefN N T sv lv w' := by
  have key : ∀ (A : Option Addr) (xs : List Value), RowN N w A xs → RowN N w' A xs := fun A xs h k u hu => by
    obtain ⟨b, o, e, hn, hc⟩ := h k u hu
    exact ⟨b, o, e, hn, (World.cell?_of_block (hk b (World.block_lt_of_cell? w _ hc) hn)).trans hc⟩
  obtain ⟨⟨A, c, h1, h2, g1⟩, A', c', h3, h4, h5⟩ := h
  exact ⟨⟨A, c, h1, key _ _ h2, g1⟩, A', c', h3, key _ _ h4, h5⟩
def PhiRenY (D gc n cc k : Nat) (now ses fen : Int) (reel : List UInt8) (un ul uf : Int) (sv : Value) : Nat → Value → Prop
  | 29, v => v = .pointer (some ⟨D, 4, none⟩)
  | 30, v => v = .slice (some ⟨gc, 0, none⟩) n cc
  | 31, v => v = .agg #[.int .i64 un, .int .i64 ul, .int .i64 uf, sv, .slice (some ⟨gc, 0, none⟩) n cc]
  | 32, v => v = .int .i64 ses
  | 33, v => v = .string (sB reel)
  | 34, v => v = .int .i64 fen
  | 35, v => v = .int .i64 (k : Int)
  | 36, v => v = .int .i64 now
  | 37, v => v = .int .i64 (now + 600)
  | 38, v => v = .pointer (some ⟨gc, k * 4, none⟩)
  | 39, v => v = .pointer (some ⟨gc, k * 4 + 3, none⟩)
  | _, _ => True
def PhiRen (D gc n cc k : Nat) (now ses fen : Int) (reel : List UInt8) (un ul uf : Int) (sv : Value) (E : Nat) (sl : Nat) (v : Value) (w : World) : Prop := PhiRenY D gc n cc k now ses fen reel un ul uf sv sl v
theorem PhiRen.ext {D gc n cc k : Nat} {now ses fen : Int} {reel : List UInt8} {un ul uf : Int} {sv : Value} {E : Nat} {w w' : World} (hb : Below w.heap.size w w') : ∀ sl v, PhiRen D gc n cc k now ses fen reel un ul uf sv E sl v w → PhiRen D gc n cc k now ses fen reel un ul uf sv E sl v w' := fun sl v h => h
set_option maxRecDepth 100000 in
set_option maxHeartbeats 2000000 in
theorem renewr_any (N : Nat → Prop) (T : Tb) (sv lv : Value) (now ses : Int) (reel : List UInt8) (fen : Int) (w : World) (h : RefN N T sv lv w) (hN : ∀ b, N b → b < w.heap.size) (hasc : Asc T.lea) (hl : T.lea.length ≤ 1000) :
    Calls Tryz.prog 41 #[refV T sv lv, .int .i64 now, .int .i64 ses, .string (sB reel), .int .i64 fen] w (RM1 N w (renewT T now ses reel fen) (.int .i64 (heldE T now ses reel fen))) := by
  obtain ⟨i0, hi, hz0, hz1, hz2⟩ := info_parts infoL
  have HI0 := Lib.hid (And.intro hi (And.intro hz0 (And.intro hz1 hz2)))
  clear hi hz0 hz1 hz2
  have HCK := Lib.hid (fun M W hW hM => checkr_any M T sv lv now ses reel fen W hW hM hasc hl)
  have H := Lib.hid h
  obtain ⟨D, hD⟩ : ∃ D, D = w.heap.size := ⟨_, rfl⟩
  have HD := Lib.hid hD
  have HN := Lib.hid (hD ▸ hN)
  have HTZ := Lib.hid (toldE_zero (T := T) (now := now))
  have HEZ := Lib.hid (heldE_zero (T := T) (now := now) (ses := ses) (reel := reel) (fen := fen))
  have HAS := Lib.hid (toldT_asc hasc now)
  obtain ⟨U, hU⟩ : ∃ U, U = toldT T now := ⟨_, rfl⟩
  obtain ⟨E0, hE0⟩ : ∃ E, E = heldE T now ses reel fen := ⟨_, rfl⟩
  have HU := Lib.hid hU
  have HE0 := Lib.hid hE0
  have HUL := Lib.hid (show U.lea.length ≤ 1000 ∧ U.ses = T.ses ∧ U.lf = T.lf ∧ U.ls = T.ls by
    rw [hU]
    have := toldT_len T now
    exact ⟨by omega, this.2⟩)
  obtain ⟨R, hR⟩ : ∃ R, R = heldE T now ses reel fen := ⟨_, rfl⟩
  have HY := Lib.hid (show R = E0 from hR.trans hE0.symm)
  obtain ⟨V, hV⟩ : ∃ V, V = renewT T now ses reel fen := ⟨_, rfl⟩
  have HV := Lib.hid hV
  unfold renewT at HV
  unfold RM1
  rw [← hD, ← hR, ← hV]
  rw [← hU, ← hE0] at HCK HV
  rw [← hE0, ← hU] at HEZ
  rw [← hU] at HAS
  obtain ⟨⟨SA, sc, rfl, _⟩, A, c, rfl, _⟩ := h
  clear hU hE0 hN hl hR hV hasc
  go_enter Tryz.func41, Tryz.ntmps41
  go_wp2_with fail
  rw [← hD]
  generalize hw2 : World.alloc _ _ = w2
  have X2 := Lib.hid (show RBox D w [.int .i64 T.now, .int .i64 T.ls, .int .i64 T.lf, .slice SA T.ses.length sc, .slice A T.lea.length c] [.int .i64 0, .int .i64 0, .int .i64 0, .slice none 0 0, .slice none 0 0] w2 by rw [← hw2]; exact RBox.start hD)
  have N2 := Lib.hid (H.out.box HD.out X2.out.bel)
  clear hw2 hD
  refine (HCK.out (NX N D) w2 N2.out (NX.lt X2.out HN.out)).mono ?_
  rintro e w3 ⟨⟨su, lu, rfl, hn3⟩, hb⟩
  have X3 := Lib.hid (X2.out.ext hb)
  have N3 := Lib.hid hn3
  have HM3 := Lib.hid (NX.lt X3.out HN.out)
  obtain ⟨⟨SB, sb, rfl, _, hsb, hsm, _⟩, LB, lb, rfl, _, hlb, hlm, _⟩ := hn3
  clear hb N2 X2 HCK
  have q := X3.out.box.cell
  have y := X3.out.box.free
  have q1 := X3.out.res.cell
  have y1 := X3.out.res.free
  have hlt := X3.out.lt
  have hltd := X3.out.box.lt
  by_cases h0 : E0 = 0
  · rw [if_pos h0] at HV
    subst h0
    obtain ⟨ht0, x, hx, hxr, hxs, hxf⟩ := HEZ.out rfl
    obtain ⟨hn0, hn1, _⟩ := HTZ.out ht0
    have HMI := Lib.hid (show mineI U ses reel fen = heldK T now ses reel fen by
      unfold mineI
      rw [mine_some HAS.out hx hxr hxs hxf])
    obtain ⟨k, hk⟩ : ∃ k, k = heldK T now ses reel fen := ⟨_, rfl⟩
    rw [← hk] at hx HMI HV
    have hkl := (List.getElem?_eq_some_iff.1 hx).1
    have hkl2 : (k : Int) < (U.lea.length : Int) := by omega
    have HX := Lib.hid hx
    have HXX := Lib.hid (And.intro hxr (And.intro hxs hxf))
    have hl1000 : U.lea.length ≤ 1000 := HUL.out.1
    have hlb' : lb ≤ 9223372036854775807 := by simpa [maxLen] using hlm
    clear hx hxr hxs hxf ht0 hk HEZ HTZ
    obtain ⟨g0, o0, hLB⟩ : ∃ g o, LB = some ⟨g, o, none⟩ := by
      obtain ⟨_, A', c', e', hr', _⟩ := N3.out
      cases e'
      exact LeasAt.some hr'.row HX.out
    subst hLB
    have HK4 := Lib.hid (show ∀ b, b ≠ D → (((((w3.setCell ⟨D, 0, none⟩ (.int .i64 U.now)).setCell ⟨D, 1, none⟩ (.int .i64 U.ls)).setCell ⟨D, 2, none⟩ (.int .i64 U.lf)).setCell ⟨D, 3, none⟩ (.slice SB U.ses.length sb)).setCell ⟨D, 4, none⟩ (.slice (some ⟨g0, o0, none⟩) U.lea.length lb)).heap[b]? = w3.heap[b]? from fun b hb => put5 hb _ _ _ _ _)
    have HNW := Lib.hid (show ∀ (o : Obj) (j : Nat) (u : Value), (U.lea.flatMap lsV)[j]? = some u → ((((((w3.setCell ⟨D, 0, none⟩ (.int .i64 U.now)).setCell ⟨D, 1, none⟩ (.int .i64 U.ls)).setCell ⟨D, 2, none⟩ (.int .i64 U.lf)).setCell ⟨D, 3, none⟩ (.slice SB U.ses.length sb)).setCell ⟨D, 4, none⟩ (.slice (some ⟨g0, o0, none⟩) U.lea.length lb)).alloc o).cell? ((⟨g0, o0, none⟩ : Addr).add j) = some u from fun o j u hj => by
      obtain ⟨_, A', c', e', hr', _⟩ := N3.out
      cases e'
      obtain ⟨b, o', e, hnb, hc⟩ := hr' j u hj
      cases e
      have hlt := World.block_lt_of_cell? w3 _ hc
      have hadd : (⟨g0, o0, none⟩ : Addr).add j = ⟨g0, o0 + j, none⟩ := by unfold Addr.add; split <;> simp_all
      rw [hadd, ← hc]
      refine ((below_one _ _).cell (p := ⟨g0, o0 + j, none⟩) (by simpa using hlt)).trans ?_
      exact World.cell?_of_block (HK4.out g0 (fun e => hnb (.inr (.inl e)))))
    have HONE := Lib.hid (show ∀ u ∈ U.lea.flatMap lsV, u.oneCell' = true from flat_one U.lea)
    have HFL := Lib.hid (show (U.lea.flatMap lsV).length = U.lea.length * 4 by rw [flat_len lsV_len])
    go_wp2_with (at_builtin; go_loud (refine wpList_append_own _ rfl _ _ 28 rfl w3.heap.size 49 i0 (.agg #[.string ⟨#[]⟩, .int .i64 0, .int .i64 0, .int .i64 0]) 4 40 Tryz.underlying28 HI0.out.1 HI0.out.2.1 HI0.out.2.2.1 HI0.out.2.2.2 rfl (by decide) (.slice (some ⟨w3.heap.size, 0, none⟩) 0 0) 0 [] rfl (own_empty (by simp)) ⟨g0, o0, none⟩ U.lea.length lb (U.lea.flatMap lsV) rfl HFL.out (HNW.out _) HONE.out (by simp only [maxLen]; omega) (by omega) (by simp) ?_))
    intro o' w5 ho hgr _
    have HO5 := Lib.hid (show w5.ownsRow w3.heap.size 49 4 o' U.lea.length (U.lea.flatMap lsV) by simpa using ho)
    have X5 := Lib.hid (show RBox D w [Value.int .i64 U.now, Value.int .i64 U.ls, Value.int .i64 U.lf, Value.slice SB U.ses.length sb, Value.slice (some ⟨g0, o0, none⟩) U.lea.length lb] _ w5 from (((((((X3.out.setB 0 _).setB 1 _).setB 2 _).setB 3 _).setB 4 _).ext (below_one _ (.cells #[] 49))).grown hgr (fun k hk => by cases hk; exact hlt)))
    have HK5 := Lib.hid (show ∀ b, b < w3.heap.size → b ≠ D → w5.heap[b]? = w3.heap[b]? from fun b hb hne => ((hgr.block b (by simp; omega) (fun e => by have e2 : b = w3.heap.size := Option.some.inj e; omega)).trans ((below_one _ _).block b (by simpa using hb))).trans (HK4.out b hne))
    have N5 := Lib.hid (RefN.newL (T' := U) (N3.out.kept (fun b hb hn => HK5.out b hb (fun e => hn (.inr (.inl e))))) rfl HO5.out HM3.out)
    have HB5 := Lib.hid (show w3.heap.size ≤ w5.heap.size by have := hgr.size; simp at this; omega)
    obtain ⟨gc, cc, rfl, hgc, hgw⟩ := HO5.out.form (by omega)
    clear ho hgr q y q1 y1 hlt hltd HNW HK4 HONE HFL
    obtain ⟨D3, hD3⟩ : ∃ D3, D3 = w3.heap.size := ⟨_, rfl⟩
    have HD3 := Lib.hid (show D + 1 < D3 by rw [hD3]; exact X3.out.lt)
    rw [← hD3] at hgc HO5
    have HD33 := Lib.hid hD3
    clear hD3
    have q := X5.out.box.cell
    have y := X5.out.box.free
    have q1 := X5.out.res.cell
    have y1 := X5.out.res.free
    have hlt := X5.out.lt
    have hltd := X5.out.box.lt
    go_wp2_with fail
    clear q y q1 y1 hlt hltd
    generalize hw6 : World.setCell _ _ _ = w6
    have X6 := Lib.hid (show RBox D w [Value.int .i64 U.now, Value.int .i64 U.ls, Value.int .i64 U.lf, Value.slice SB U.ses.length sb, Value.slice (some ⟨gc, 0, none⟩) U.lea.length cc] _ w6 by rw [← hw6]; exact X5.out.setB 4 _)
    have N6 := Lib.hid (show RefN (NX N D) U _ _ w6 by rw [← hw6]; exact N5.out.putB 4 _)
    have NS6 := Lib.hid (show RefN (fun b => NX N D b ∨ D3 ≤ b) U (.slice SB U.ses.length sb) (.slice (some ⟨g0, o0, none⟩) U.lea.length lb) w6 by
      rw [← hw6]
      refine RefN.put ?_ (.inl (.inr (.inl rfl))) 4 _
      refine RefN.kept (N3.out.mono (N' := fun b => NX N D b ∨ D3 ≤ b) (fun b hb h => h.elim id (fun h => by have := HD33.out; omega))) (fun b hb hn => HK5.out b hb (fun e => hn (.inl (.inr (.inl e))))))
    have HO6 := Lib.hid (show w6.ownsRow D3 49 4 (.slice (some ⟨gc, 0, none⟩) U.lea.length cc) U.lea.length (U.lea.flatMap lsV) by
      rw [← hw6]
      exact own_put HO5.out (fun e => by have e2 : gc = D := Option.some.inj e; have := HD3.out; omega) _ _)
    have HM6 := Lib.hid (NX.lt X6.out HN.out)
    clear hw6
    have hgD : D ≠ gc := by have := HD3.out; omega
    have hgD1 : D + 1 ≠ gc := by have := HD3.out; omega
    have HGC := Lib.hid (show D + 1 < gc by have := HD3.out; omega)
    obtain ⟨E, hE⟩ : ∃ E, E = w6.heap.size := ⟨_, rfl⟩
    have HE := Lib.hid hE
    have HMC := Lib.hid (show ∀ w8, Below E w6 w8 → Calls Tryz.prog 66 #[refV U (.slice SB U.ses.length sb) (.slice (some ⟨gc, 0, none⟩) U.lea.length cc), .int .i64 ses, .string (sB reel), .int .i64 fen] w8 (fun e w' => e = .returned (.int .i64 (k : Int)) ∧ Below w8.heap.size w8 w') from fun w8 hb => by
      rw [← HMI.out]
      exact mine_any U _ _ ses reel fen w8 (N6.out.ref.ext (hE ▸ hb)) HAS.out HUL.out.1)
    have HSZ := Lib.hid (show ∀ w8, Below E w6 w8 → E ≤ w8.heap.size from fun w8 hb => by rw [hE]; exact hb.size)
    have hDE : D < E := by rw [hE]; exact X6.out.box.lt
    have HWR := Lib.hid (show IntKind.i64.wrap (now + 600) = now + 600 by rw [IntKind.wrap_i64] <;> omega)
    have b0 : w6.cell? ⟨D, 0, none⟩ = some (.int .i64 U.now) := X6.out.box.cell 0
    have b1 : w6.cell? ⟨D, 1, none⟩ = some (.int .i64 U.ls) := X6.out.box.cell 1
    have b2 : w6.cell? ⟨D, 2, none⟩ = some (.int .i64 U.lf) := X6.out.box.cell 2
    have b3 : w6.cell? ⟨D, 3, none⟩ = some (.slice SB U.ses.length sb) := X6.out.box.cell 3
    have b4 : w6.cell? ⟨D, 4, none⟩ = some (.slice (some ⟨gc, 0, none⟩) U.lea.length cc) := X6.out.box.cell 4
    clear hE
    refine wp_region_spec_tail 11 (by kernel_rfl) (fun w' => Below E w6 w') (PhiRen D gc U.lea.length cc k now ses fen reel U.now U.ls U.lf (.slice SB U.ses.length sb) E) 42 rfl (by kernel_rfl) (by kernel_rfl) (by kernel_rfl) (by kernel_rfl) (by kernel_rfl) (Below.refl _ _).drew ?hops ?hend
    case hops =>
      refine ⟨?o0, ?o1, ?o2, ?o3, ?o4, ?o5, ?o6, ?o7, ?o8, ?o9, ?o10, trivial⟩
      case o0 =>
        intro ev w8 hI hdep hfree
        have a5 : ev 5 = Value.pointer (some { block := D, off := 0 }) := hfree 5 (by kernel_rfl)
        clear hdep hfree
        try dsimp only
        simp [OpRuns, execOp, evalOf, a5, go_sem]
        first | exact ⟨hI, rfl⟩ | exact ⟨hI, rfl⟩ | exact hI
      case o1 =>
        intro ev w8 hI hdep hfree
        have a29 : ev 29 = .pointer (some ⟨D, 4, none⟩) := (hdep 0 29 (by kernel_rfl) (by kernel_rfl))
        clear hdep hfree
        have y0 : w8.cell? ⟨D, 4, none⟩ = some (.slice (some ⟨gc, 0, none⟩) U.lea.length cc) := (hI.cell (p := ⟨D, 4, none⟩) hDE).trans b4
        try dsimp only
        simp [OpRuns, execOp, evalOf, a29, y0, go_sem]
        first | exact ⟨hI, rfl⟩ | exact ⟨hI, rfl⟩ | exact hI
      case o2 =>
        intro ev w8 hI hdep hfree
        have a5 : ev 5 = Value.pointer (some { block := D, off := 0 }) := hfree 5 (by kernel_rfl)
        clear hdep hfree
        have y0 : w8.cell? ⟨D, 0, none⟩ = some (.int .i64 U.now) := (hI.cell (p := ⟨D, 0, none⟩) hDE).trans b0
        have y1 : w8.cell? ⟨D, 1, none⟩ = some (.int .i64 U.ls) := (hI.cell (p := ⟨D, 1, none⟩) hDE).trans b1
        have y2 : w8.cell? ⟨D, 2, none⟩ = some (.int .i64 U.lf) := (hI.cell (p := ⟨D, 2, none⟩) hDE).trans b2
        have y3 : w8.cell? ⟨D, 3, none⟩ = some (.slice SB U.ses.length sb) := (hI.cell (p := ⟨D, 3, none⟩) hDE).trans b3
        have y4 : w8.cell? ⟨D, 4, none⟩ = some (.slice (some ⟨gc, 0, none⟩) U.lea.length cc) := (hI.cell (p := ⟨D, 4, none⟩) hDE).trans b4
        try dsimp only
        simp [OpRuns, execOp, evalOf, a5, y0, y1, y2, y3, y4, go_sem]
        first | exact ⟨hI, rfl⟩ | exact ⟨hI, rfl⟩ | exact hI
      case o3 =>
        intro ev w8 hI hdep hfree
        have a2 : ev 2 = Value.int IntKind.i64 ses := hfree 2 (by kernel_rfl)
        clear hdep hfree
        try dsimp only
        simp [OpRuns, execOp, evalOf, a2, go_sem]
        first | exact ⟨hI, rfl⟩ | exact ⟨hI, rfl⟩ | exact hI
      case o4 =>
        intro ev w8 hI hdep hfree
        have a3 : ev 3 = Value.string (sB reel) := hfree 3 (by kernel_rfl)
        clear hdep hfree
        try dsimp only
        simp [OpRuns, execOp, evalOf, a3, go_sem]
        first | exact ⟨hI, rfl⟩ | exact ⟨hI, rfl⟩ | exact hI
      case o5 =>
        intro ev w8 hI hdep hfree
        have a4 : ev 4 = Value.int IntKind.i64 fen := hfree 4 (by kernel_rfl)
        clear hdep hfree
        try dsimp only
        simp [OpRuns, execOp, evalOf, a4, go_sem]
        first | exact ⟨hI, rfl⟩ | exact ⟨hI, rfl⟩ | exact hI
      case o6 =>
        intro ev w8 hI hdep hfree
        have a31 : ev 31 = .agg #[.int .i64 U.now, .int .i64 U.ls, .int .i64 U.lf, .slice SB U.ses.length sb, .slice (some ⟨gc, 0, none⟩) U.lea.length cc] := (hdep 2 31 (by kernel_rfl) (by kernel_rfl))
        have a32 : ev 32 = .int .i64 ses := (hdep 3 32 (by kernel_rfl) (by kernel_rfl))
        have a33 : ev 33 = .string (sB reel) := (hdep 4 33 (by kernel_rfl) (by kernel_rfl))
        have a34 : ev 34 = .int .i64 fen := (hdep 5 34 (by kernel_rfl) (by kernel_rfl))
        clear hdep hfree
        try dsimp only
        refine runs_call (f := 66) (args := #[refV U (.slice SB U.ses.length sb) (.slice (some ⟨gc, 0, none⟩) U.lea.length cc), .int .i64 ses, .string (sB reel), .int .i64 fen]) (by simp [execOp, evalOf, resolve, invoke, a31, a32, a33, a34, go_sem]) ((HMC.out w8 hI).mono ?_)
        rintro e w9 ⟨he, hb⟩
        exact ⟨_, he, hI.trans (hb.mono (HSZ.out w8 hI)), PhiRen.ext hb, fun d hd => by cases hd; exact rfl⟩
      case o7 =>
        intro ev w8 hI hdep hfree
        have a1 : ev 1 = Value.int IntKind.i64 now := hfree 1 (by kernel_rfl)
        clear hdep hfree
        try dsimp only
        simp [OpRuns, execOp, evalOf, a1, go_sem]
        first | exact ⟨hI, rfl⟩ | exact ⟨hI, rfl⟩ | exact hI
      case o8 =>
        intro ev w8 hI hdep hfree
        have a36 : ev 36 = .int .i64 now := (hdep 7 36 (by kernel_rfl) (by kernel_rfl))
        clear hdep hfree
        try dsimp only
        simp [OpRuns, execOp, evalOf, a36, HWR.out, go_sem]
        first | exact ⟨hI, rfl⟩ | exact ⟨hI, rfl⟩ | exact hI
      case o9 =>
        intro ev w8 hI hdep hfree
        have a30 : ev 30 = .slice (some ⟨gc, 0, none⟩) U.lea.length cc := (hdep 1 30 (by kernel_rfl) (by kernel_rfl))
        have a35 : ev 35 = .int .i64 (k : Int) := (hdep 6 35 (by kernel_rfl) (by kernel_rfl))
        clear hdep hfree
        try dsimp only
        simp [OpRuns, execOp, evalOf, a30, a35, hkl2, go_sem]
        first | exact ⟨hI, rfl⟩ | exact ⟨hI, rfl⟩ | exact hI
      case o10 =>
        intro ev w8 hI hdep hfree
        have a38 : ev 38 = .pointer (some ⟨gc, k * 4, none⟩) := (hdep 9 38 (by kernel_rfl) (by kernel_rfl))
        clear hdep hfree
        try dsimp only
        simp [OpRuns, execOp, evalOf, a38, go_sem]
        first | exact ⟨hI, rfl⟩ | exact ⟨hI, rfl⟩ | exact hI
    case hend =>
      intro a w6b hdf hsz hI hPhi hkept
      replace hdf : a.defers = [] := hdf
      replace hsz : a.tmps.size = 42 := hsz
      have x37 : a.tmps.getD 37 undef = .int .i64 (now + 600) := (hPhi 8 37 (by omega) (by kernel_rfl))
      have x39 : a.tmps.getD 39 undef = .pointer (some ⟨gc, k * 4 + 3, none⟩) := (hPhi 10 39 (by omega) (by kernel_rfl))
      have x0 : a.tmps.getD 0 undef = refV T (Value.slice SA T.ses.length sc) (Value.slice A T.lea.length c) := hkept 0 (kept_front (by kernel_rfl))
      have x1 : a.tmps.getD 1 undef = Value.int IntKind.i64 now := hkept 1 (kept_front (by kernel_rfl))
      have x2 : a.tmps.getD 2 undef = Value.int IntKind.i64 ses := hkept 2 (kept_front (by kernel_rfl))
      have x3 : a.tmps.getD 3 undef = Value.string (sB reel) := hkept 3 (kept_front (by kernel_rfl))
      have x4 : a.tmps.getD 4 undef = Value.int IntKind.i64 fen := hkept 4 (kept_front (by kernel_rfl))
      have x5 : a.tmps.getD 5 undef = Value.pointer (some { block := D, off := 0 }) := hkept 5 (kept_front (by kernel_rfl))
      have x6 : a.tmps.getD 6 undef = undef := hkept 6 (kept_front (by kernel_rfl))
      have x7 : a.tmps.getD 7 undef = undef := hkept 7 (kept_front (by kernel_rfl))
      have x8 : a.tmps.getD 8 undef = undef := hkept 8 (kept_front (by kernel_rfl))
      have x9 : a.tmps.getD 9 undef = undef := hkept 9 (kept_front (by kernel_rfl))
      have x10 : a.tmps.getD 10 undef = Value.pointer (some { block := D + 1, off := 0 }) := hkept 10 (kept_front (by kernel_rfl))
      have x11 : a.tmps.getD 11 undef = Value.int IntKind.i64 0 := hkept 11 (kept_front (by kernel_rfl))
      have x12 : a.tmps.getD 12 undef = Value.int IntKind.i64 0 := hkept 12 (kept_front (by kernel_rfl))
      have x13 : a.tmps.getD 13 undef = Value.tuple #[refV U (Value.slice SB U.ses.length sb) (Value.slice (some { block := g0, off := o0 }) U.lea.length lb), Value.int IntKind.i64 0] := hkept 13 (kept_front (by kernel_rfl))
      have x14 : a.tmps.getD 14 undef = Value.agg #[Value.int IntKind.i64 T.now, Value.int IntKind.i64 T.ls, Value.int IntKind.i64 T.lf, Value.slice SA T.ses.length sc, Value.slice A T.lea.length c] := hkept 14 (kept_front (by kernel_rfl))
      have x15 : a.tmps.getD 15 undef = Value.int IntKind.i64 now := hkept 15 (kept_front (by kernel_rfl))
      have x16 : a.tmps.getD 16 undef = Value.int IntKind.i64 ses := hkept 16 (kept_front (by kernel_rfl))
      have x17 : a.tmps.getD 17 undef = Value.string (sB reel) := hkept 17 (kept_front (by kernel_rfl))
      have x18 : a.tmps.getD 18 undef = Value.int IntKind.i64 fen := hkept 18 (kept_front (by kernel_rfl))
      have x19 : a.tmps.getD 19 undef = Value.tuple #[refV U (Value.slice SB U.ses.length sb) (Value.slice (some { block := g0, off := o0 }) U.lea.length lb), Value.int IntKind.i64 0] := hkept 19 (kept_front (by kernel_rfl))
      have x20 : a.tmps.getD 20 undef = refV U (Value.slice SB U.ses.length sb) (Value.slice (some { block := g0, off := o0 }) U.lea.length lb) := hkept 20 (kept_front (by kernel_rfl))
      have x21 : a.tmps.getD 21 undef = Value.int IntKind.i64 0 := hkept 21 (kept_front (by kernel_rfl))
      have x22 : a.tmps.getD 22 undef = Value.int IntKind.i64 0 := hkept 22 (kept_front (by kernel_rfl))
      have x23 : a.tmps.getD 23 undef = Value.bool true := hkept 23 (kept_front (by kernel_rfl))
      have x24 : a.tmps.getD 24 undef = Value.slice (some { block := w3.heap.size, off := 0 }) 0 0 := hkept 24 (kept_front (by kernel_rfl))
      have x25 : a.tmps.getD 25 undef = Value.pointer (some { block := D, off := 4 }) := hkept 25 (kept_front (by kernel_rfl))
      have x26 : a.tmps.getD 26 undef = Value.slice (some { block := g0, off := o0 }) U.lea.length lb := hkept 26 (kept_front (by kernel_rfl))
      have x27 : a.tmps.getD 27 undef = Value.slice (some { block := gc, off := 0 }) U.lea.length cc := hkept 27 (kept_front (by kernel_rfl))
      have x28 : a.tmps.getD 28 undef = Value.pointer (some { block := D, off := 4 }) := hkept 28 (kept_front (by kernel_rfl))
      have x40 : a.tmps.getD 40 undef = undef := hkept 40 (kept_front (by kernel_rfl))
      have x41 : a.tmps.getD 41 undef = undef := hkept 41 (kept_front (by kernel_rfl))
      have ea := act_lit hsz hdf
      simp only [getDs] at ea
      rw [x37, x39, x0, x1, x2, x3, x4, x5, x6, x7, x8, x9, x10, x11, x12, x13, x14, x15, x16, x17, x18, x19, x20, x21, x22, x23, x24, x25, x26, x27, x28, x40, x41] at ea
      rw [ea]
      clear ea x37 x39 x0 x1 x2 x3 x4 x5 x6 x7 x8 x9 x10 x11 x12 x13 x14 x15 x16 x17 x18 x19 x20 x21 x22 x23 x24 x25 x26 x27 x28 x40 x41 hPhi hkept hdf hsz
      generalize a.tmps.getD 29 undef = u29
      generalize a.tmps.getD 30 undef = u30
      generalize a.tmps.getD 31 undef = u31
      generalize a.tmps.getD 32 undef = u32
      generalize a.tmps.getD 33 undef = u33
      generalize a.tmps.getD 34 undef = u34
      generalize a.tmps.getD 35 undef = u35
      generalize a.tmps.getD 36 undef = u36
      generalize a.tmps.getD 38 undef = u38
      clear a
      have HB8 := Lib.hid (show Below w6.heap.size w6 w6b from HE.out ▸ hI)
      have X8 := Lib.hid (X6.out.ext HB8.out)
      have NS8 := Lib.hid (NS6.out.ext HB8.out)
      have HO8 := Lib.hid (own_ext HO6.out HB8.out)
      have HL8 := Lib.hid (show LeasAt w6b (some ⟨gc, 0, none⟩) U.lea by
        obtain ⟨LA', lc', e', hr', _⟩ := row_of_ownK HO8.out
        cases e'
        exact hr')
      obtain ⟨c0, c1, c2, c3⟩ := LeasAt.get HL8.out HX.out
      rw [Nat.zero_add] at c0 c1 c2 c3
      have z3 : w6b.frozen? ⟨gc, k * 4 + 3, none⟩ = false := by
        obtain ⟨cur, hc⟩ := own_block HO8.out (g := gc) rfl
        exact unfrozen_of_block hc _
      have q := X8.out.box.cell
      have y := X8.out.box.free
      have q1 := X8.out.res.cell
      have y1 := X8.out.res.free
      have hlt := X8.out.lt
      have hltd := X8.out.box.lt
      clear hI
      go_wp2_with (with_reducible refine stop_at ?_)
      unfold StopAt
      clear q y q1 y1 z3 c0 c1 c2 c3
      have HOS := Lib.hid (show (w6b.setCell ⟨gc, k * 4 + 3, none⟩ (.int .i64 (now + 600))).ownsRow D3 49 4 (.slice (some ⟨gc, 0, none⟩) U.lea.length cc) (U.lea.set k ⟨reel, ses, fen, now + 600⟩).length ((U.lea.set k ⟨reel, ses, fen, now + 600⟩).flatMap lsV) by
        have := own_cell HO8.out (k * 4 + 3) (.int .i64 (now + 600)) (by rw [flat_len lsV_len]; omega)
        rw [lsV_set3 (now + 600) U.lea k x HX.out, HXX.out.1, HXX.out.2.1, HXX.out.2.2] at this
        simpa using this)
      have NZ := Lib.hid (RefN.newL (N := NX N D) (T' := { U with lea := U.lea.set k ⟨reel, ses, fen, now + 600⟩ }) (base := D3) ((NS8.out.put (g := gc) (.inr hgc) (k * 4 + 3) (.int .i64 (now + 600))).mono (fun b _ h => .inl h)) rfl HOS.out (HD33.out ▸ HM3.out))
      have XZ := Lib.hid (X8.out.setFar HGC.out (k * 4 + 3) (.int .i64 (now + 600)))
      have HT := Lib.hid (show V = { U with lea := U.lea.set k ⟨reel, ses, fen, now + 600⟩ } from HV.out)
      generalize hw9 : World.setCell _ _ _ = w9
      have X9 := Lib.hid (show RBox D w _ [Value.int .i64 U.now, Value.int .i64 U.ls, Value.int .i64 U.lf, Value.slice SB U.ses.length sb, Value.slice (some ⟨gc, 0, none⟩) U.lea.length cc] w9 by rw [← hw9]; exact ((((XZ.out.setR 0 _).setR 1 _).setR 2 _).setR 3 _).setR 4 _)
      have N9 := Lib.hid (show RefN (NX N D) _ _ _ w9 by rw [← hw9]; exact ((((NZ.out.putR 0 _).putR 1 _).putR 2 _).putR 3 _).putR 4 _)
      have r0 : w9.cell? ⟨D + 1, 0, none⟩ = some (Value.int .i64 U.now) := X9.out.res.cell 0
      have r1 : w9.cell? ⟨D + 1, 1, none⟩ = some (Value.int .i64 U.ls) := X9.out.res.cell 1
      have r2 : w9.cell? ⟨D + 1, 2, none⟩ = some (Value.int .i64 U.lf) := X9.out.res.cell 2
      have r3 : w9.cell? ⟨D + 1, 3, none⟩ = some (Value.slice SB U.ses.length sb) := X9.out.res.cell 3
      have r4 : w9.cell? ⟨D + 1, 4, none⟩ = some (Value.slice (some ⟨gc, 0, none⟩) U.lea.length cc) := X9.out.res.cell 4
      refine bodyPost_ret (by simp [results, Tryz.results41, r0, r1, r2, r3, r4, go_sem]; try rfl) rfl ?_
      rw [HY.out, HT.out]
      exact ⟨⟨_, _, rfl, N9.out.unbox⟩, X9.out.bel⟩

  · rw [if_neg h0] at HV
    have HT := Lib.hid (show V = U from HV.out)
    have t0 : (E0 == 0) = false := beq_eq_false_iff_ne.2 h0
    clear h0
    go_wp2_with (with_reducible refine stop_at ?_)
    unfold StopAt
    clear q y q1 y1
    generalize hw9 : World.setCell _ _ _ = w9
    have X9 := Lib.hid (show RBox D w _ [Value.int .i64 U.now, Value.int .i64 U.ls, Value.int .i64 U.lf, Value.slice SB U.ses.length sb, Value.slice LB U.lea.length lb] w9 by rw [← hw9]; exact (((((((((X3.out.setB 0 _).setB 1 _).setB 2 _).setB 3 _).setB 4 _).setR 0 _).setR 1 _).setR 2 _).setR 3 _).setR 4 _)
    have N9 := Lib.hid (show RefN (NX N D) _ _ _ w9 by rw [← hw9]; exact (((((((((N3.out.putB 0 _).putB 1 _).putB 2 _).putB 3 _).putB 4 _).putR 0 _).putR 1 _).putR 2 _).putR 3 _).putR 4 _)
    have r0 : w9.cell? ⟨D + 1, 0, none⟩ = some (Value.int .i64 U.now) := X9.out.res.cell 0
    have r1 : w9.cell? ⟨D + 1, 1, none⟩ = some (Value.int .i64 U.ls) := X9.out.res.cell 1
    have r2 : w9.cell? ⟨D + 1, 2, none⟩ = some (Value.int .i64 U.lf) := X9.out.res.cell 2
    have r3 : w9.cell? ⟨D + 1, 3, none⟩ = some (Value.slice SB U.ses.length sb) := X9.out.res.cell 3
    have r4 : w9.cell? ⟨D + 1, 4, none⟩ = some (Value.slice LB U.lea.length lb) := X9.out.res.cell 4
    refine bodyPost_ret (by simp [results, Tryz.results41, r0, r1, r2, r3, r4, go_sem]; try rfl) rfl ?_
    rw [HY.out, HT.out]
    exact ⟨⟨_, _, rfl, N9.out.unbox⟩, X9.out.bel⟩
end Go.Proofs.YtneiljaknmeagaaGreatDoor
