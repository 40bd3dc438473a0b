/-
  The contract of the screen of a document. Its conditions are its hypotheses.
-/
import Derived.Test.YtmopjhbfobmklaaGreatDoorMP4
import Derived.Test.YtmopjhbfobmklaaGreatDoorMHp
import Derived.Laws.Rows
set_option maxRecDepth 100000
set_option maxHeartbeats 40000000
namespace Go.Proofs.YtmopjhbfobmklaaGreatDoor
open Go.RowKit Go.Joins
set_option linter.unusedVariables false
set_option linter.unusedSimpArgs false
def gl0 : Gl := ⟨0, 0, 0, 0, false, false⟩
def grid0 : List Gl := List.replicate 480 gl0
theorem grid0_cells : Tryz.zeroCells151.toList = grid0.flatMap Gl.cs := by kernel_rfl
def putG (G : List Gl) (L : List Gl) : List Gl := L.foldl (fun G x => G.set (cellG x).toNat x) G
theorem putG_len : ∀ (L G : List Gl), (putG G L).length = G.length
 | [], _ => rfl
 | x :: t, G => by
  show (putG (G.set (cellG x).toNat x) t).length = _
  rw [putG_len t, List.length_set]
theorem putG_step {L G : List Gl} {j : Nat} {x : Gl} (h : L[j]? = some x) : putG G (L.take (j + 1)) = (putG G (L.take j)).set (cellG x).toNat x := by
 unfold putG
 rw [List.take_add_one, h, Option.toList_some, List.foldl_append]
 rfl
def evG (regs : List Rg) (x : Ev) : List Gl := plcV (findV regs x.reg).1 x.rows
def gridL (regs : List Rg) (E : List Ev) (L : List Nat) : List Gl := L.foldl (fun G i => match E[i]? with | some x => putG G (evG regs x) | none => G) grid0
theorem gridL_step {regs : List Rg} {E : List Ev} {L : List Nat} {n i : Nat} {x : Ev} (h : L[n]? = some i) (hx : E[i]? = some x) : gridL regs E (L.take (n + 1)) = putG (gridL regs E (L.take n)) (evG regs x) := by
 unfold gridL
 rw [List.take_add_one, h, Option.toList_some, List.foldl_append]
 simp only [List.foldl_cons, List.foldl_nil]
 rw [hx]
theorem gridL_len (regs : List Rg) (E : List Ev) : ∀ L, (gridL regs E L).length = 480 := by
 intro L
 unfold gridL
 have key : ∀ (L : List Nat) (G : List Gl), (L.foldl (fun G i => match E[i]? with | some x => putG G (evG regs x) | none => G) G).length = G.length := by
  intro L
  induction L with
  | nil => intro G; rfl
  | cons i t ih =>
   intro G
   rw [List.foldl_cons, ih]
   split
   ·exact putG_len _ _
   rfl
 rw [key]
 unfold grid0
 rw [List.length_replicate]
def scrL (G : List Gl) : List Gl := G.filter fun g => decide (g.ch ≠ 0)
theorem scrL_step {G : List Gl} {k : Nat} {x : Gl} (h : G[k]? = some x) : scrL (G.take (k + 1)) = scrL (G.take k) ++ (if x.ch ≠ 0 then [x] else []) := by
 unfold scrL
 rw [List.take_add_one, h, Option.toList_some, List.filter_append]
 congr 1
 by_cases hx : x.ch ≠ 0
 ·rw [if_pos hx, List.filter_cons_of_pos (by simpa using hx)]
  rfl
 rw [if_neg hx, List.filter_cons_of_neg (by simpa using hx)]
 rfl
def scrV (regs : List Rg) (E : List Ev) (f : Int) : List Gl := scrL (gridL regs E (idxF f 0 E))
theorem flat_cut {G : List Gl} {i : Nat} {x : Gl} (h : i < G.length) : putL (G.flatMap Gl.cs) (i * 6) x.cs = (G.set i x).flatMap Gl.cs := by
 have hl : ∀ L : List Gl, (L.flatMap Gl.cs).length = L.length * 6 := fun L => by
  induction L with
  | nil => rfl
  | cons a t ih => rw [List.flatMap_cons, List.length_append, ih, List.length_cons]; show 6 + _ = _; omega
 have e1 : G = G.take i ++ (G[i] :: G.drop (i + 1)) := by
  have h3 := List.drop_eq_getElem_cons h
  rw [← h3, List.take_append_drop]
 have e2 : G.set i x = G.take i ++ (x :: G.drop (i + 1)) := List.set_eq_take_append_cons_drop.trans (if_pos h)
 rw [e2]
 conv => lhs; rw [e1]
 rw [List.flatMap_append, List.flatMap_cons, List.flatMap_append, List.flatMap_cons]
 have := putL_mid x.cs G[i].cs ((G.take i).flatMap Gl.cs) ((G.drop (i + 1)).flatMap Gl.cs) rfl
 rw [hl, List.length_take, Nat.min_eq_left (Nat.le_of_lt h)] at this
 exact this
abbrev GridT (w : World) (g : Nat) (G : List Gl) : Prop := HeldT w g 151 (G.flatMap Gl.cs)
theorem GridT.put {w : World} {g : Nat} {G : List Gl} (h : GridT w g G) {i : Nat} (hi : i < G.length) (x : Gl) : GridT (w.setCells g (i * 6) x.cs) g (G.set i x) := by
 have := HeldT.puts h x.cs (i * 6)
 rwa [flat_cut hi] at this
theorem gridT_new (w : World) : GridT (w.alloc (.cells Tryz.zeroCells151 151 (0, 0))) w.heap.size grid0 := by
 have e : Tryz.zeroCells151 = (grid0.flatMap Gl.cs).toArray := by rw [← grid0_cells]
 rw [e]
 exact HeldT.new rfl
theorem gridT_cell {w : World} {g : Nat} {G : List Gl} (h : GridT w g G) {i : Nat} (hi : i < G.length) : ∃ x : Gl, w.cell? ⟨g, i * 6, none⟩ = some (.int .i64 x.row) ∧ w.cell? ⟨g, i * 6 + 1, none⟩ = some (.int .i64 x.col) ∧ w.cell? ⟨g, i * 6 + 2, none⟩ = some (.int .i32 x.ch) ∧ w.cell? ⟨g, i * 6 + 3, none⟩ = some (.int .u8 x.co) ∧ w.cell? ⟨g, i * 6 + 4, none⟩ = some (.bool x.it) ∧ w.cell? ⟨g, i * 6 + 5, none⟩ = some (.bool x.un) := by
 have hx : G[i]? = some G[i] := List.getElem?_eq_getElem hi
 have e : ∀ j, j < 6 → w.cell? ⟨g, i * 6 + j, none⟩ = (Gl.cs G[i])[j]? := fun j hj => by
  rw [h.held.cell]
  exact flat_get (enc := Gl.cs) (m := 6) (fun _ => rfl) hx hj
 exact ⟨G[i], e 0 (by decide), e 1 (by decide), e 2 (by decide), e 3 (by decide), e 4 (by decide), e 5 (by decide)⟩
theorem idx_gl {G : List Gl} (hl : G.length = 480) {k : Nat} {x : Gl} (hx : G[k]? = some x) (w : World) : (Instr.index 151 (.agg (G.flatMap Gl.cs).toArray) (.int .i64 (k : Int))).run Tryz.prog w = .ok x.v w := by
 have hk : k < 480 := by have := (List.getElem?_eq_some_iff.1 hx).1; omega
 have hk2 : (k : Int) < 480 := by omega
 have e : ((G.flatMap Gl.cs).drop (k * 6)).take 6 = x.cs := by
  rw [flat_drop (enc := Gl.cs) (m := 6) (fun _ => rfl), List.drop_eq_getElem_cons (List.getElem?_eq_some_iff.1 hx).1, (List.getElem?_eq_some_iff.1 hx).2, List.flatMap_cons]
  rfl
 simp [Instr.index, asIntOf, run_underlying Tryz.underlying151, Sem.run_bind, hk, part, go_sem, e]
 rfl
theorem info480 : (Tryz.prog.info? 151).map (·.size) = some 2880 := by kernel_rfl
theorem grid_size {G : List Gl} (hl : G.length = 480) : (Tryz.prog.info? 151).map (·.size) = some (G.flatMap Gl.cs).toArray.size := by
 have e : (G.flatMap Gl.cs).toArray.size = 2880 := by rw [List.size_toArray, flat_len (enc := Gl.cs) (m := 6) (fun _ => rfl), hl]
 rw [e]
 exact info480
theorem screen_any (d : Dc) (rv ev cv : Value) (f : Int) (w : World) (h : DocAt w d rv ev cv) (ho : DcOk d) (h0 : dcE d = 0) (hw : Wt w) :
  Calls Tryz.prog 41 #[d.v rv ev cv, .int .i64 f] w (PlcP (scrV d.regs d.evs f) w) := by
 obtain ⟨i0, hi, hz0, hz1, hz2⟩ := info_parts infoGl
 have HI0 := ι (And.intro hi (And.intro hz0 (And.intro hz1 hz2)))
 clear hi hz0 hz1 hz2
 obtain ⟨A, c, rfl⟩ := h.evs.form
 obtain ⟨A1, c1, rfl⟩ := h.regs.form
 obtain ⟨A2, c2, rfl⟩ := h.cms.form
 have HAT := ι (fun W (hb : Below w.heap.size w W) => dat_any d (.slice A1 d.regs.length c1) (.slice A d.evs.length c) (.slice A2 d.cms.length c2) f W (SeqAt.ext h.evs EvC.stays hb) ho.evl)
 have HPC := ι (fun (x : Ev) (hx : x ∈ d.evs) (rv : Value) W (hb : Below w.heap.size w W) (hr : RowsAt W rv x.rows) => dplace_any x rv (.slice A1 d.regs.length c1) d.regs W hr (ho.evs x hx).1 (SeqAt.ext h.regs (Flat.stays _) hb) (by have := dcE_regs h0; omega) (dcE_ev h0 x hx) (hw.on hb))
 have HIN := ι (fun (x : Ev) (hx : x ∈ d.evs) => show ∀ g ∈ evG d.regs x, (0 ≤ g.row ∧ g.row ≤ 14) ∧ 0 ≤ g.col ∧ g.col ≤ 31 from plcV_in (evE_place (dcE_ev h0 x hx)).2)
 have HGL := ι (fun (x : Ev) (hx : x ∈ d.evs) => show (evG d.regs x).length ≤ 1000000 by
  obtain ⟨_, hp⟩ := evE_place (dcE_ev h0 x hx)
  obtain ⟨_, _, h3, _⟩ := evE_zero (dcE_ev h0 x hx)
  have h4 := plcR_len (m := 32) (spV' (findV d.regs x.reg).1 (lensV x.rows)) x.rows (fun s hs => by
   obtain ⟨k, hk⟩ := List.getElem?_of_mem hs
   have := spot_in hp hk
   omega)
  have h5 : (spV' (findV d.regs x.reg).1 (lensV x.rows)).length = x.rows.length := by rw [spV_len2]; unfold lensV; rw [List.length_map]
  show (plcR _ _).length ≤ 1000000
  omega)
 have HEV := ι h.evs
 have HLT := ι (fun i (hi : i ∈ idxF f 0 d.evs) => (idxF_lt f d.evs 0 i hi).2)
 have HLL := ι (show (idxF f 0 d.evs).length ≤ 400 from Nat.le_trans (idxF_len f d.evs 0) (dcE_evl h0).1)
 obtain ⟨L, hL⟩ : ∃ L, L = idxF f 0 d.evs := ⟨_, rfl⟩
 rw [← hL] at HAT HLT HLL
 have HSC := ι (show scrV d.regs d.evs f = scrL (gridL d.regs d.evs L) by rw [hL]; rfl)
 rw [HSC.out]
 obtain ⟨nE, hnE⟩ : ∃ n, n = d.evs.length := ⟨_, rfl⟩
 have HNE := ι hnE
 rw [← hnE] at HAT HEV HLT ⊢
 generalize d.regs.length = nR at *
 generalize d.cms.length = nK at *
 have hdv : d.v (.slice A1 nR c1) (.slice A nE c) (.slice A2 nK c2) = .agg #[.string (sB d.title), .string (sB d.lang), .int .u8 d.rate, .bool d.drop, .int .i64 d.last, .slice A1 nR c1, .slice A nE c, .slice A2 nK c2] := rfl
 rw [hdv] at HAT ⊢
 clear h ho h0 hw hL hdv hnE HSC
 unfold IdxP at HAT
 unfold PlcP at HPC ⊢
 obtain ⟨D, hD⟩ : ∃ D, D = w.heap.size := ⟨_, rfl⟩
 have HD := ι hD
 go_enter Tryz.func41, Tryz.ntmps41
 go_wp2_with fail
 rw [← hD]
 generalize hw1 : World.alloc (World.alloc w _) _ = w1
 have F1 := ι (show HeldT w1 D 41 (d.cs (.slice A1 nR c1) (.slice A nE c) (.slice A2 nK c2)) by subst hw1; exact (HeldT.new hD).alloc _)
 have G1 := ι (show GridT w1 (D + 1) grid0 by
  subst hw1
  have e : D + 1 = (w.alloc (.cells #[.string (sB d.title), .string (sB d.lang), .int .u8 d.rate, .bool d.drop, .int .i64 d.last, .slice A1 nR c1, .slice A nE c, .slice A2 nK c2] 41 (0, 0))).heap.size := by simp [hD]
  rw [e]
  exact gridT_new _)
 have B1 := ι (show Below w.heap.size w w1 by subst hw1; exact (Below.more' _ _).alloc (by simp) _)
 clear hw1 hD
 refine (HAT.out w1 B1.out).mono ?_
 rintro e w2 ⟨⟨v3, rfl, ho3⟩, hb⟩
 have F2 := ι (F1.out.ext hb)
 have G2 := ι (G1.out.ext hb)
 have B2 := ι (show Below D w w2 from HD.out ▸ B1.out.trans (hb.mono B1.out.size))
 have hw1s : D + 2 ≤ w1.heap.size := by have := G1.out.lt; omega
 have hl3 : (intsN L).length = L.length := by unfold intsN; rw [List.length_map]
 rw [hl3] at ho3
 obtain ⟨nL, hnL⟩ : ∃ n, n = L.length := ⟨_, rfl⟩
 rw [← hnL] at HLL ho3
 have O2 := ι (ownsRow_mono ho3 hw1s)
 obtain ⟨A3, c3, e3, _⟩ := row_of_ownK ho3
 subst e3
 have HNL := ι hnL
 have hnl := HLL.out
 have hD2 : D + 1 < w2.heap.size := G2.out.lt
 clear hb F1 G1 B1 HAT hl3 hnL ho3 hw1s
 go_wp2_with fail
 go_loopw [17] (fun kv wr => ∃ k : Nat, kv = .int .i64 k ∧ k ≤ nL ∧ Hid (GridT wr (D + 1) (gridL d.regs d.evs (L.take k))) ∧ Hid (HeldT wr D 41 (d.cs (.slice A1 nR c1) (.slice A nE c) (.slice A2 nK c2))) ∧ Hid (wr.ownsRow (D + 2) 3 1 (.slice A3 nL c3) nL ((intsN L).map (Value.int .i64))) ∧ Hid (Below D w wr)) (fun kv _ => nL - (intOf kv).toNat)
 case atStart => exact ⟨0, rfl, Nat.zero_le _, G2, F2, O2, B2⟩
 case round =>
 obtain ⟨k, rfl, hk, GR, FR, OR, BR⟩ := hrel
 have hDr : D + 1 < wr.heap.size := GR.out.lt
 by_cases hlt : k < nL
 ·have hlt2 : (k : Int) < (nL : Int) := by omega
  obtain ⟨i, hi⟩ : ∃ i, L[k]? = some i := ⟨_, List.getElem?_eq_getElem (by have := HNL.out; omega)⟩
  have hin : i < nE := by have := HLT.out i (List.mem_of_getElem? hi); omega
  have hin2 : (i : Int) < (nE : Int) := by omega
  obtain ⟨x, hx⟩ : ∃ x, d.evs[i]? = some x := ⟨_, List.getElem?_eq_getElem (by have := HNE.out; omega)⟩
  have HGS := ι (gridL_step (regs := d.regs) hi hx)
  have hxm := List.mem_of_getElem? hx
  obtain ⟨b3, o3, hA3, hc3⟩ : ∃ b o, A3 = some ⟨b, o, none⟩ ∧ wr.cell? ⟨b, o + k, none⟩ = some (.int .i64 (i : Int)) := by
   obtain ⟨A3', c3', e3', hr3, _⟩ := row_of_ownK OR.out
   injection e3' with e3a _ _
   rw [e3a]
   exact hr3 k (.int .i64 (i : Int)) (by unfold intsN; rw [List.getElem?_map, List.getElem?_map, hi]; rfl)
  obtain ⟨b, o, r, rfl, ⟨p0, p1, p2, p3, p4, p5, p6⟩, hrr⟩ := EvsAt.get (SeqAt.ext HEV.out EvC.stays (HD.out ▸ BR.out)) hx
  obtain ⟨rA, rc, rfl⟩ := hrr.form
  have HPX := ι (fun W (hb : Below wr.heap.size wr W) => HPC.out x hxm (.slice rA x.rows.length rc) W ((HD.out ▸ BR.out).trans (hb.mono ((HD.out ▸ BR.out).size))) (SeqAt.ext hrr RowC.stays hb))
  have HING := ι (HIN.out x hxm)
  have hml := HGL.out x hxm
  change Hid (∀ W, Below wr.heap.size wr W → Calls Tryz.prog 76 #[.slice A1 nR c1, .agg #[.int .i64 x.id, .int .i64 x.i, .int .i64 x.o, .string (sB x.reg), .int .u8 x.kind, .string (sB x.spk), .slice rA x.rows.length rc]] W fun e w' => (∃ v, e = .returned v ∧ w'.ownsRow W.heap.size 112 6 v (evG d.regs x).length ((evG d.regs x).flatMap Gl.cs)) ∧ Below W.heap.size W w') at HPX
  generalize evG d.regs x = M at *
  subst hA3
  have hbr : b < wr.heap.size := World.block_lt_of_cell? wr _ p0
  have hb3 : b3 < wr.heap.size := World.block_lt_of_cell? wr _ hc3
  have q := FR.out.held.cell
  unfold Dc.cs at q
  clear hi hx hxm hrr
  go_wp2_with fail
  go_region_law (go_simp; go_at_call 76; refine (HPX.out _ (by first | exact Below.refl _ _ | exact (Below.refl _ _).drew)).mono ?_; rintro e w3 ⟨⟨v9, rfl, ho9⟩, hb9⟩; obtain ⟨A9, c9, e9, _⟩ := row_of_ownK ho9; subst e9)
  all_goals
   clear q p0 p1 p2 p3 p4 p5 p6 hc3
   have hb10 : Below wr.heap.size wr w3 := (Below.refl _ _).drew.trans hb9
   have G3 := ι (HeldT.ext GR.out hb10)
   have F3 := ι (HeldT.ext FR.out hb10)
   have O3 := ι (own_ext OR.out hb10)
   have M3 := ι (show w3.ownsRow wr.heap.size 112 6 (.slice A9 M.length c9) M.length (M.flatMap Gl.cs) from ho9)
   have B3 := ι (show Below D w w3 from BR.out.trans (hb10.mono (by omega)))
   obtain ⟨K, hK⟩ : ∃ K, K = gridL d.regs d.evs (L.take k) := ⟨_, rfl⟩
   rw [← hK] at G3 HGS
   have hKL := ι (show K.length = 480 by rw [hK]; exact gridL_len _ _ _)
   clear hK hb9 hb10 ho9 GR FR OR BR
   simp only [Exit.inBlock, Exit.then]
   go_step
   go_wp2_with fail
   simp [Act.put]
   go_loopw [30] (fun jv wq => ∃ j : Nat, jv = .int .i64 j ∧ j ≤ M.length ∧ Hid (GridT wq (D + 1) (putG K (M.take j))) ∧ Hid (HeldT wq D 41 (d.cs (.slice A1 nR c1) (.slice (some ⟨b, o, none⟩) nE c) (.slice A2 nK c2))) ∧ Hid (wq.ownsRow (D + 2) 3 1 (.slice (some ⟨b3, o3, none⟩) nL c3) nL ((intsN L).map (Value.int .i64))) ∧ Hid (∃ bb, wq.ownsRow bb 112 6 (.slice A9 M.length c9) M.length (M.flatMap Gl.cs)) ∧ Hid (Below D w wq)) (fun jv _ => M.length - (intOf jv).toNat)
   case atStart => exact ⟨0, rfl, Nat.zero_le _, G3, F3, O3, ι ⟨_, M3.out⟩, B3⟩
   case round =>
   obtain ⟨j, rfl, hj, GQ, FQ, OQ, MQ, BQ⟩ := hrel
   have hDq : D + 1 < wr.heap.size := GQ.out.lt
   by_cases hjl : j < M.length
   ·have hjl2 : (j : Int) < (M.length : Int) := by omega
    obtain ⟨y, hy⟩ : ∃ y, M[j]? = some y := ⟨_, List.getElem?_eq_getElem hjl⟩
    have HPS := ι (putG_step (G := K) hy)
    have hyi := HING.out y (List.mem_of_getElem? hy)
    obtain ⟨bb, hmq⟩ := MQ.out
    obtain ⟨gb, go', hA9, y0, y1, y2, y3, y4, y5⟩ := GlsAt.get (gls_of hmq) hy
    subst hA9
    have hgb : gb < wr.heap.size := World.block_lt_of_cell? wr _ y0
    obtain ⟨ci, hci⟩ : ∃ ci : Nat, cellG y = (ci : Int) := ⟨(cellG y).toNat, by unfold cellG; omega⟩
    have hci2 : ci < 480 := by unfold cellG at hci; omega
    have HPS2 := ι (show putG K (M.take (j + 1)) = (putG K (M.take j)).set ci y by rw [HPS.out, hci, Int.toNat_natCast])
    have hlen := ι (show ci < (putG K (M.take j)).length by rw [putG_len, hKL.out]; exact hci2)
    have HCE := ι (fun W => show Calls Tryz.prog 77 #[.agg #[.int .i64 y.row, .int .i64 y.col, .int .i32 y.ch, .int .u8 y.co, .bool y.it, .bool y.un]] W fun e w' => e = .returned (.int .i64 (ci : Int)) ∧ Below W.heap.size W w' from hci ▸ cell_any y W hyi)
    clear hmq hy HPS hyi hci
    go_wp2_with fail
    clear y0 y1 y2 y3 y4 y5
    obtain ⟨X, hX⟩ : ∃ X, X = wr.heap.size := ⟨_, rfl⟩
    rw [← hX]
    generalize hw4 : World.alloc wr _ = w4
    have X4 := ι (show HeldT w4 X 112 y.cs by subst hw4; exact HeldT.new hX)
    have G4 := ι (show GridT w4 (D + 1) (putG K (M.take j)) by subst hw4; exact GQ.out.alloc _)
    have hE4 : Below wr.heap.size wr w4 := by subst hw4; exact Below.more' _ _
    have F4 := ι (HeldT.ext FQ.out hE4)
    have O4 := ι (own_ext OQ.out hE4)
    have M4 := ι (show ∃ bb, w4.ownsRow bb 112 6 (.slice (some ⟨gb, go', none⟩) M.length c9) M.length (M.flatMap Gl.cs) from MQ.out.imp (fun bb h => own_ext h hE4))
    have B4 := ι (show Below D w w4 from BQ.out.trans (hE4.mono (by omega)))
    have hXD : D + 1 < X := by omega
    have hX4 : X < w4.heap.size := X4.out.held.lt
    clear hw4 hX hE4 GQ FQ OQ MQ BQ
    have xq := X4.out.held.cell
    unfold Gl.cs at xq
    obtain ⟨z, z0, z1, z2, z3, z4, z5⟩ := gridT_cell G4.out hlen.out
    have zf := G4.out.held.free
    have hci3 : (ci : Int) < 480 := by omega
    have hD4 : D + 1 < w4.heap.size := by omega
    have HX4 := ι X4.out
    go_region_law (go_simp; go_at_call 77; refine (HCE.out _).mono ?_; rintro e w5 ⟨rfl, hb5⟩; (have hb6 : Below w4.heap.size w4 w5 := (by first | exact hb5 | exact (Below.refl _ _).drew.trans hb5)); (have xq5 := (HeldT.ext HX4.out hb6).held.cell); unfold Gl.cs at xq5; obtain ⟨z', z0', z1', z2', z3', z4', z5'⟩ := gridT_cell (HeldT.ext G4.out hb6) hlen.out; (have zf5 := (HeldT.ext G4.out hb6).held.free); (have hz5 : w4.heap.size ≤ w5.heap.size := hb6.size))
    all_goals
     clear xq xq5 z0 z1 z2 z3 z4 z5 z0' z1' z2' z3' z4' z5' zf zf5
     have G5 := HeldT.ext G4.out hb6
     have hD5 : D + 1 < w5.heap.size := G5.lt
     generalize hw6 : World.setCell _ _ _ = w6
     have G6 := ι (show GridT w6 (D + 1) (putG K (M.take (j + 1))) by rw [HPS2.out]; subst hw6; exact GridT.put G5 hlen.out y)
     have K6 : KeepX 151 w5 w6 := by subst hw6; exact KeepX.puts y.cs (ci * 6) G5
     have F6 := ι (K6.heldT (HeldT.ext F4.out hb6) (by decide))
     have O6 := ι (K6.own (own_ext O4.out hb6) (by decide))
     have M6 := ι (M4.out.imp (fun bb h => K6.own (own_ext h hb6) (by decide)))
     have B6 := ι (show Below D w w6 by subst hw6; exact Below.all (B := D) (G := D + 1) (by omega) y.cs (ci * 6) (B4.out.trans (hb6.mono (by omega))))
     clear hw6 K6 G5 hb5 hb6 G4 F4 O4 M4 B4 X4 HX4
     simp only [Exit.inBlock, Exit.then]
     go_step
     go_wp2_with fail
     go_roundw
     case rel => exact ⟨j + 1, by go_num, by omega, G6, F6, O6, M6, B6⟩
     case measure => simp [intOf]; omega
   obtain rfl : j = M.length := by omega
   rw [List.take_length, ← HGS.out] at GQ
   go_wp2_with fail
   go_roundw
   case rel => exact ⟨k + 1, by go_num, by omega, GQ, FQ, OQ, BQ⟩
   case measure => simp [intOf]; omega
 obtain rfl : k = nL := by omega
 have GR2 := ι (show GridT wr (D + 1) (gridL d.regs d.evs L) by have := GR.out; rwa [HNL.out, List.take_length] at this)
 clear hlt GR
 go_wp2_with fail
 refine wp_load_row 151 (.tmp 5) rfl (D + 1) rfl _ _ _ _ GR2.out Tryz.underlying151 rfl (grid_size (gridL_len _ _ _)) ?_
 have hGL := gridL_len d.regs d.evs L
 have hD0 : D ≤ wr.heap.size := by omega
 have BRR := ι (show Below D w wr from BR.out)
 obtain ⟨GG, hGG⟩ : ∃ GG, GG = gridL d.regs d.evs L := ⟨_, rfl⟩
 have HGG := ι hGG
 rw [← hGG] at hGL ⊢
 clear hGG
 have HIX := ι (fun (q : Nat) (x : Gl) (hx : GG[q]? = some x) W => idx_gl hGL hx W)
 have HGLN := ι hGL
 generalize (GG.flatMap Gl.cs).toArray = arr at *
 clear GR2 FR OR BR hGL hDr
 simp only [Act.put]
 go_wp2_with fail
 go_loopw [10, 41] (fun ov kv wr => ∃ (q : Nat) (uv : Value), uv = ov ∧ kv = .int .i64 q ∧ q ≤ 480 ∧ Hid (wr.ownsRow D 112 6 uv (scrL (GG.take q)).length ((scrL (GG.take q)).flatMap Gl.cs)) ∧ Hid (Below D w wr)) (fun _ kv _ => 480 - (intOf kv).toNat)
 case atStart => exact ⟨0, _, rfl, rfl, by omega, ι (World.ownsRow_nil _ _ _ _), BRR⟩
 case round =>
 obtain ⟨q, uv, rfl, rfl, hq, OW, BW⟩ := hrel
 have hDw : D ≤ wr.heap.size := by have := BW.out.size; have := HD.out; omega
 by_cases hq4 : q < 480
 ·have hq5 : (q : Int) < 480 := by omega
  obtain ⟨x, hx⟩ : ∃ x, GG[q]? = some x := ⟨_, List.getElem?_eq_getElem (by have := HGLN.out; omega)⟩
  have HST := ι (scrL_step hx)
  have hix := HIX.out q x hx
  have hlen : (scrL (GG.take q)).length ≤ 480 := Nat.le_trans (List.length_filter_le _ _) (by rw [List.length_take]; omega)
  generalize scrL (GG.take q) = M at *
  clear hx
  by_cases hc : x.ch = 0
  ·have tc : (x.ch != 0) = false := by simpa using hc
   have HS2 := ι (show scrL (GG.take (q + 1)) = M by rw [HST.out, if_neg (fun h => h hc), List.append_nil])
   clear hc
   go_wp2_with fail
   go_roundw
   case rel => exact ⟨q + 1, _, rfl, by go_num, by omega, by rw [HS2.out]; exact ι (own_ext OW.out (Below.more' _ _)), ι (BW.out.alloc hDw _)⟩
   case measure => simp [intOf]; omega
  have tc : (x.ch != 0) = true := by simpa using hc
  have HS2 := ι (show scrL (GG.take (q + 1)) = M ++ [x] by rw [HST.out, if_pos hc])
  clear hc
  go_wp2_with (at_builtin; go_loud (refine wpList_append_own _ rfl _ _ 66 rfl D 112 i0 (.agg #[.int .i64 0, .int .i64 0, .int .i32 0, .int .u8 0, .bool false, .bool false]) 6 24 Tryz.underlying66 HI0.out.1 HI0.out.2.1 HI0.out.2.2.1 HI0.out.2.2.2 rfl (by decide) _ M.length (M.flatMap Gl.cs) rfl (own_ext (own_ext OW.out (Below.more' _ _)) (Below.more' _ _)) ⟨wr.heap.size + 1, 0, none⟩ 1 1 x.cs rfl rfl (CellsAt.all (by simp [CellsAt, go_sem, Gl.cs])) (by simp [Value.oneCell', Gl.cs]) (by simp only [maxLen]; omega) (by omega) (by simp; omega) ?_))
  intro v5 w5 ho5 hgr5 _
  have O5 := ι (show w5.ownsRow D 112 6 v5 (scrL (GG.take (q + 1))).length ((scrL (GG.take (q + 1))).flatMap Gl.cs) by
   rw [HS2.out, List.length_append, List.flatMap_append]
   simpa using ho5)
  have B5 := ι (show Below D w w5 from ((BW.out.alloc hDw _).alloc (by simp; omega) _).grown hgr5 (by simp; omega) (own_base OW.out))
  clear ho5 hgr5 OW BW
  go_wp2_with fail
  go_roundw
  case rel => exact ⟨q + 1, _, rfl, by go_num, by omega, O5, B5⟩
  case measure => simp [intOf]; omega
 obtain rfl : q = 480 := by omega
 rw [show GG.take 480 = GG by rw [← HGLN.out, List.take_length]] at OW
 clear hq4
 go_wp2_with fail
 go_ret
 rw [← HGG.out]
 exact ⟨⟨_, rfl, HD.out ▸ OW.out⟩, HD.out ▸ BW.out⟩
end Go.Proofs.YtmopjhbfobmklaaGreatDoor
