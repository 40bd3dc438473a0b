/-
  The contract of Clone of documents. Its conditions are its hypotheses.
-/
import Derived.Test.YtmopjhbfobmklaaGreatDoorMCk
import Derived.Test.YtmopjhbfobmklaaGreatDoorMBi
set_option maxRecDepth 100000
set_option maxHeartbeats 40000000
namespace Go.Proofs.YtmopjhbfobmklaaGreatDoor
open Go.RowKit Go.Joins
set_option linter.unusedVariables false
set_option linter.unusedSimpArgs false
theorem rgclone_any (v : Value) (l : List Rg) (w : World) (h : RegsAt w v l) (hl : l.length ≤ 2000000) :
  Calls Tryz.prog 58 #[v] w fun e w' => (∃ v', e = .returned v' ∧ ∃ A c, v' = .slice A l.length c ∧ RegsAt w' v' l) ∧ Below w.heap.size w w' := by
 obtain ⟨A, c, rfl⟩ := h.form
 obtain ⟨cs, hal, hnil, hcl⟩ := SeqAt.cells h
 refine (cloneRg_any A l.length c cs.flatten w (Al2.flat hal) (fun e => by rw [hnil e]; rfl) hcl (one_cell_of rg_one hal) hl).mono ?_
 rintro e w' ⟨⟨v', rfl, ho⟩, hb⟩
 obtain ⟨A', c', e', _⟩ := row_of_ownK ho
 subst e'
 exact ⟨⟨_, rfl, A', c', rfl, OwnS.at (base := w.heap.size) (ty := 128) ⟨cs, hal, ho⟩ (by decide)⟩, hb⟩
theorem cmclone_any (v : Value) (l : List Cm) (w : World) (h : CmsAt w v l) (hl : l.length ≤ 2000000) :
  Calls Tryz.prog 59 #[v] w fun e w' => (∃ v', e = .returned v' ∧ ∃ A c, v' = .slice A l.length c ∧ CmsAt w' v' l) ∧ Below w.heap.size w w' := by
 obtain ⟨A, c, rfl⟩ := h.form
 obtain ⟨cs, hal, hnil, hcl⟩ := SeqAt.cells h
 refine (cloneCm_any A l.length c cs.flatten w (Al2.flat hal) (fun e => by rw [hnil e]; rfl) hcl (one_cell_of cm_one hal) hl).mono ?_
 rintro e w' ⟨⟨v', rfl, ho⟩, hb⟩
 obtain ⟨A', c', e', _⟩ := row_of_ownK ho
 subst e'
 exact ⟨⟨_, rfl, A', c', rfl, OwnS.at (base := w.heap.size) (ty := 137) ⟨cs, hal, ho⟩ (by decide)⟩, hb⟩
structure ClnOk (d : Dc) : Prop where
 regl : d.regs.length ≤ 2000000
 evl : d.evs.length ≤ 2000000
 cml : d.cms.length ≤ 2000000
 rows : ∀ x ∈ d.evs, RowsOk x.rows
def PhiDkY (G nr nc rc cc : Nat) (rA cA : Option Addr) : Nat → Value → Prop
 | 5, v => v = .pointer (some ⟨G, 5, none⟩)
 | 6, v => v = .slice rA nr rc
 | 8, v => v = .pointer (some ⟨G, 7, none⟩)
 | 9, v => v = .slice cA nc cc
 | 11, v => v = .pointer (some ⟨G, 5, none⟩)
 | _, _ => True
def PhiDk (G nr nc rc cc : Nat) (rA cA : Option Addr) (sl : Nat) (v : Value) (w : World) : Prop := PhiDkY G nr nc rc cc rA cA sl v ∧ (sl = 7 → (fun v w => ∃ A c, v = Value.slice A nr c ∧ True) v w) ∧ (sl = 10 → (fun v w => ∃ A c, v = Value.slice A nc c ∧ True) v w)
theorem PhiDk.ext (G nr nc rc cc : Nat) (rA cA : Option Addr) {w w' : World} (hb : Below w.heap.size w w') : ∀ sl v, PhiDk G nr nc rc cc rA cA sl v w → PhiDk G nr nc rc cc rA cA sl v w' := fun sl v h => ⟨h.1, fun e => (fun q hb => q) (h.2.1 e) hb, fun e => (fun q hb => q) (h.2.2 e) hb⟩
def PhiDjY (G X g k q c2 ne vc : Nat) (A2 : Option Addr) (x : Ev) : Nat → Value → Prop
 | 25, v => v = .pointer (some ⟨G, 6, none⟩)
 | 26, v => v = .slice (some ⟨g, 0, none⟩) ne vc
 | 27, v => v = .int .i64 (k : Int)
 | 28, v => v = .agg #[.int .i64 x.id, .int .i64 x.i, .int .i64 x.o, .string (sB x.reg), .int .u8 x.kind, .string (sB x.spk), .slice A2 q c2]
 | _, _ => True
def PhiDj (G X g k q c2 ne vc : Nat) (A2 : Option Addr) (x : Ev) (sl : Nat) (v : Value) (w : World) : Prop := PhiDjY G X g k q c2 ne vc A2 x sl v ∧ (sl = 29 → (fun v w => ∃ A c, v = x.v (.slice A q c) ∧ RowsT w (.slice A q c) x.rows) v w)
theorem PhiDj.ext (G X g k q c2 ne vc : Nat) (A2 : Option Addr) (x : Ev) {w w' : World} (hb : Below w.heap.size w w') : ∀ sl v, PhiDj G X g k q c2 ne vc A2 x sl v w → PhiDj G X g k q c2 ne vc A2 x sl v w' := fun sl v h => ⟨h.1, fun e => (fun q hb => let ⟨A, c, h1, h2⟩ := q; ⟨A, c, h1, h2.keep (KeepS.ext hb)⟩) (h.2 e) hb⟩
theorem dclone_any (d : Dc) (r e c : Value) (w : World) (hd : DocAt w d r e c) (ho : ClnOk d) :
  Calls Tryz.prog 32 #[d.v r e c] w fun e' w' => (∃ rA r1 r2 v' cA c1 c2, e' = .returned (d.v (.slice rA r1 r2) v' (.slice cA c1 c2)) ∧ OwnS w' w.heap.size 55 7 EvT2 v' d.evs) ∧ Below w.heap.size w w' := by
 obtain ⟨rA, rc, rfl⟩ := hd.regs.form
 obtain ⟨eA, ec, rfl⟩ := hd.evs.form
 obtain ⟨cA, cc, rfl⟩ := hd.cms.form
 have HDO := ι hd
 have HO := ι ho
 have hn1 := ho.evl
 clear hd ho
 obtain ⟨G, hG⟩ : ∃ G, G = w.heap.size := ⟨_, rfl⟩
 rw [show d.v (.slice rA d.regs.length rc) (.slice eA d.evs.length ec) (.slice cA d.cms.length cc) = .agg #[.string (sB d.title), .string (sB d.lang), .int .u8 d.rate, .bool d.drop, .int .i64 d.last, .slice rA d.regs.length rc, .slice eA d.evs.length ec, .slice cA d.cms.length cc] from rfl]
 go_enter Tryz.func32, Tryz.ntmps32
 go_wp2_with fail
 rw [← hG]
 generalize hw5 : World.alloc (World.alloc w _) _ = w5
 have F5 := ι (show HeldT w5 G 41 (d.cs (.slice rA d.regs.length rc) (.slice eA d.evs.length ec) (.slice cA d.cms.length cc)) by subst hw5; exact (HeldT.new hG).alloc _)
 have R5 := ι (show HeldT w5 (G + 1) 41 [.string ⟨#[]⟩, .string ⟨#[]⟩, .int .u8 0, .bool false, .int .i64 0, .slice none 0 0, .slice none 0 0, .slice none 0 0] by subst hw5; exact HeldT.new (by simp [hG]))
 have B5 := ι (show Below w.heap.size w w5 by subst hw5; exact (Below.more' _ _).alloc (by simp) _)
 have HG0 := ι hG
 clear hw5 hG
 obtain ⟨nr, hnr⟩ : ∃ n, n = d.regs.length := ⟨_, rfl⟩
 obtain ⟨nc, hnc⟩ : ∃ n, n = d.cms.length := ⟨_, rfl⟩
 have HRG := ι (show ∀ W, Below w.heap.size w W → Calls Tryz.prog 58 #[.slice rA nr rc] W fun e w' => (∃ v', e = .returned v' ∧ ∃ A c, v' = .slice A nr c ∧ True) ∧ Below W.heap.size W w' from fun W hb => by
  rw [hnr]
  exact (rgclone_any _ d.regs W (HDO.out.regs.ext (Flat.stays _) hb) HO.out.regl).mono (fun e w' ⟨⟨v, h1, A, c, h2, h3⟩, h4⟩ => ⟨⟨v, h1, A, c, h2, trivial⟩, h4⟩))
 have HCM := ι (show ∀ W, Below w.heap.size w W → Calls Tryz.prog 59 #[.slice cA nc cc] W fun e w' => (∃ v', e = .returned v' ∧ ∃ A c, v' = .slice A nc c ∧ True) ∧ Below W.heap.size W w' from fun W hb => by
  rw [hnc]
  exact (cmclone_any _ d.cms W (HDO.out.cms.ext (Flat.stays _) hb) HO.out.cml).mono (fun e w' ⟨⟨v, h1, A, c, h2, h3⟩, h4⟩ => ⟨⟨v, h1, A, c, h2, trivial⟩, h4⟩))
 rw [← hnr, ← hnc] at F5 ⊢
 clear hnr hnc
 obtain ⟨N, hN⟩ : ∃ N, N = w5.heap.size := ⟨_, rfl⟩
 have hGN : G < N := by have := F5.out.lt; omega
 have hRN : G + 1 < N := by have := R5.out.lt; omega
 have hBN := ι (show w.heap.size ≤ N by have := B5.out.size; omega)
 have HSZ := ι (show ∀ w', Below N w5 w' → N ≤ w'.heap.size from fun w' h => by have := h.size; omega)
 have HN := ι hN
 clear hN
 have e5 : w5.cell? ⟨G, 5, none⟩ = some (.slice rA nr rc) := F5.out.held.cell 5
 have e7 : w5.cell? ⟨G, 7, none⟩ = some (.slice cA nc cc) := F5.out.held.cell 7
 refine wp_region_spec_tail 7 (by kernel_rfl) (fun w' => Below N w5 w') (PhiDk G nr nc rc cc rA cA) 33 rfl (by kernel_rfl) (by kernel_rfl) (by kernel_rfl) (by kernel_rfl) (by kernel_rfl) (Below.refl _ _).drew ?hops ?hend
 case hops =>
  refine ⟨?o0, ?o1, ?o2, ?o3, ?o4, ?o5, ?o6, trivial⟩
  case o0 =>
   intro ev w8 hI δ φ
   have a1 : ev 1 = .pointer (some ⟨G, 0, none⟩) := φ 1 (by kernel_rfl)
   clear δ φ
   try dsimp only
   simp [OpRuns, execOp, evalOf, a1, go_sem]
   exact ⟨hI, rfl, ν rfl, ν rfl⟩
  case o1 =>
   intro ev w8 hI δ φ
   have a5 : ev 5 = .pointer (some ⟨G, 5, none⟩) := (δ 0 5 (by kernel_rfl) rfl).1
   have y0 : w8.cell? ⟨G, 5, none⟩ = some (.slice rA nr rc) := (hI.cell (p := ⟨G, 5, none⟩) hGN).trans e5
   clear δ φ
   try dsimp only
   simp [OpRuns, execOp, evalOf, a5, y0, go_sem]
   exact ⟨hI, rfl, ν rfl, ν rfl⟩
  case o2 =>
   intro ev w8 hI δ φ
   have a6 : ev 6 = .slice rA nr rc := (δ 1 6 (by kernel_rfl) rfl).1
   clear δ φ
   try dsimp only
   refine runs_call (f := 58) (args := #[.slice rA nr rc]) (by simp [execOp, evalOf, resolve, invoke, a6, go_sem]) ((HRG.out w8 (B5.out.trans (hI.mono hBN.out))).mono ?_)
   rintro e w9 ⟨⟨v, he, hrow⟩, hb⟩
   exact ⟨_, he, hI.trans (hb.mono (HSZ.out w8 hI)), PhiDk.ext G nr nc rc cc rA cA hb, fun d hd => by cases hd; exact ⟨trivial, fun e => hrow, ν rfl⟩⟩
  case o3 =>
   intro ev w8 hI δ φ
   have a1 : ev 1 = .pointer (some ⟨G, 0, none⟩) := φ 1 (by kernel_rfl)
   clear δ φ
   try dsimp only
   simp [OpRuns, execOp, evalOf, a1, go_sem]
   exact ⟨hI, rfl, ν rfl, ν rfl⟩
  case o4 =>
   intro ev w8 hI δ φ
   have a8 : ev 8 = .pointer (some ⟨G, 7, none⟩) := (δ 3 8 (by kernel_rfl) rfl).1
   have y0 : w8.cell? ⟨G, 7, none⟩ = some (.slice cA nc cc) := (hI.cell (p := ⟨G, 7, none⟩) hGN).trans e7
   clear δ φ
   try dsimp only
   simp [OpRuns, execOp, evalOf, a8, y0, go_sem]
   exact ⟨hI, rfl, ν rfl, ν rfl⟩
  case o5 =>
   intro ev w8 hI δ φ
   have a9 : ev 9 = .slice cA nc cc := (δ 4 9 (by kernel_rfl) rfl).1
   clear δ φ
   try dsimp only
   refine runs_call (f := 59) (args := #[.slice cA nc cc]) (by simp [execOp, evalOf, resolve, invoke, a9, go_sem]) ((HCM.out w8 (B5.out.trans (hI.mono hBN.out))).mono ?_)
   rintro e w9 ⟨⟨v, he, hrow⟩, hb⟩
   exact ⟨_, he, hI.trans (hb.mono (HSZ.out w8 hI)), PhiDk.ext G nr nc rc cc rA cA hb, fun d hd => by cases hd; exact ⟨trivial, ν rfl, fun e => hrow⟩⟩
  case o6 =>
  intro ev w8 hI δ φ
  have a1 : ev 1 = .pointer (some ⟨G, 0, none⟩) := φ 1 (by kernel_rfl)
  clear δ φ
  try dsimp only
  simp [OpRuns, execOp, evalOf, a1, go_sem]
  exact ⟨hI, rfl, ν rfl, ν rfl⟩
 case hend =>
 intro a w6 hdf hsz hI hPhi κ
 replace hdf : a.defers = [] := hdf
 replace hsz : a.tmps.size = 33 := hsz
 obtain ⟨R7, r7, x7, hr7⟩ := (hPhi 2 7 (by omega) (by kernel_rfl)).2.1 rfl
 obtain ⟨R10, r10, x10, hr10⟩ := (hPhi 5 10 (by omega) (by kernel_rfl)).2.2 rfl
 have x11 : a.tmps.getD 11 undef = .pointer (some ⟨G, 5, none⟩) := (hPhi 6 11 (by omega) (by kernel_rfl)).1
 have x0 := κO κ 0 (Value.agg #[Value.string (sB d.title), Value.string (sB d.lang), Value.int IntKind.u8 d.rate, Value.bool d.drop, Value.int IntKind.i64 d.last, Value.slice rA nr rc, Value.slice eA d.evs.length ec, Value.slice cA nc cc]) rfl rfl
 have x1 := κO κ 1 (Value.pointer (some { block := G, off := 0 })) rfl rfl
 have x2 := κO κ 2 (Value.pointer (some { block := G + 1, off := 0 })) rfl rfl
 have x3 := κO κ 3 (undef) rfl rfl
 have x4 := κO κ 4 (undef) rfl rfl
 have x12 := κO κ 12 (undef) rfl rfl
 have x13 := κO κ 13 (undef) rfl rfl
 have x14 := κO κ 14 (undef) rfl rfl
 have x15 := κO κ 15 (undef) rfl rfl
 have x16 := κO κ 16 (undef) rfl rfl
 have x17 := κO κ 17 (undef) rfl rfl
 have x18 := κO κ 18 (undef) rfl rfl
 have x19 := κO κ 19 (undef) rfl rfl
 have x20 := κO κ 20 (undef) rfl rfl
 have x21 := κO κ 21 (undef) rfl rfl
 have x22 := κO κ 22 (undef) rfl rfl
 have x23 := κO κ 23 (undef) rfl rfl
 have x24 := κO κ 24 (undef) rfl rfl
 have x25 := κO κ 25 (undef) rfl rfl
 have x26 := κO κ 26 (undef) rfl rfl
 have x27 := κO κ 27 (undef) rfl rfl
 have x28 := κO κ 28 (undef) rfl rfl
 have x29 := κO κ 29 (undef) rfl rfl
 have x30 := κO κ 30 (undef) rfl rfl
 have x31 := κO κ 31 (undef) rfl rfl
 have x32 := κO κ 32 (undef) rfl rfl
 have ea := act_lit hsz hdf
 simp only [getDs] at ea
 rw [x7, x10, x11, x0, x1, x2, x3, x4, x12, x13, x14, x15, x16, x17, x18, x19, x20, x21, x22, x23, x24, x25, x26, x27, x28, x29, x30, x31, x32] at ea
 rw [ea]
 clear ea x7 x10 x11 x0 x1 x2 x3 x4 x12 x13 x14 x15 x16 x17 x18 x19 x20 x21 x22 x23 x24 x25 x26 x27 x28 x29 x30 x31 x32 hPhi κ hdf hsz
 generalize a.tmps.getD 5 undef = u5, a.tmps.getD 6 undef = u6, a.tmps.getD 8 undef = u8, a.tmps.getD 9 undef = u9
 clear a
 have F6 := ι (F5.out.below hI hGN)
 have R6 := ι (R5.out.below hI hRN)
 have B6 := ι (show Below w.heap.size w w6 from B5.out.trans (hI.mono hBN.out))
 clear e5 e7 hGN hRN hI F5 R5 B5 hr7 hr10 HRG HCM HSZ
 have fq := F6.out.held.cell
 have fy := F6.out.held.free
 have hG6 := F6.out.lt
 unfold Dc.cs at fq
 go_wp2_with fail
 clear fq fy
 generalize hw7 : World.setCell _ _ _ = w7
 have F7 := ι (show HeldT w7 G 41 (d.cs (.slice R7 nr r7) (.slice eA d.evs.length ec) (.slice R10 nc r10)) by subst hw7; exact (F6.out.set 5 _).set 7 _)
 have R7' := ι (show HeldT w7 (G + 1) 41 [.string ⟨#[]⟩, .string ⟨#[]⟩, .int .u8 0, .bool false, .int .i64 0, .slice none 0 0, .slice none 0 0, .slice none 0 0] by subst hw7; exact (R6.out.other (by omega) 5 _).other (by omega) 7 _)
 have B7 := ι (show Below w.heap.size w w7 by subst hw7; exact (B6.out.setCell (p := ⟨G, 5, none⟩) (Nat.le_of_eq HG0.out.symm) _).setCell (p := ⟨G, 7, none⟩) (Nat.le_of_eq HG0.out.symm) _)
 clear hw7 F6 R6 B6 hG6
 obtain ⟨es, a1, a2, a3⟩ := SeqAt.cells HDO.out.evs
 have HA := ι a1
 have hne : eA = none → d.evs.length = 0 := fun e => by rw [a2 e]; rfl
 refine (cloneEv_any eA d.evs.length ec es.flatten w7 (Al2.flat a1) hne (fun ad e j u hu => (B7.out.cell (World.block_lt_of_cell? w _ (a3 ad e j u hu))).trans (a3 ad e j u hu)) (one_cell_of ev_one a1) hn1).mono ?_
 rintro e w8 ⟨⟨v, rfl, ho⟩, hb⟩
 clear a1 a2 a3 hne
 obtain ⟨vA, vc, e', _⟩ := row_of_ownK ho
 subst e'
 obtain ⟨E, hE⟩ : ∃ E, E = w7.heap.size := ⟨_, rfl⟩
 rw [← hE] at ho
 have HO8 := ι ho
 have B8 := ι (B7.out.trans (hb.mono B7.out.size))
 have F8 := ι (F7.out.ext hb)
 have R8 := ι (R7'.out.ext hb)
 have hE8 : E ≤ w8.heap.size := by have := hb.size; omega
 have hGE : G + 1 < E := by have := R7'.out.lt; omega
 have HWE := ι (show w.heap.size ≤ E by have := B7.out.size; omega)
 clear ho hb hE F7 R7' B7
 have fq := F8.out.held.cell
 have fy := F8.out.held.free
 have hG8 := F8.out.lt
 unfold Dc.cs at fq
 go_wp2_with fail
 clear fq fy
 generalize hw9 : World.setCell w8 _ _ = w9
 have F9 := ι (show HeldT w9 G 41 (d.cs (.slice R7 nr r7) (.slice vA d.evs.length vc) (.slice R10 nc r10)) by subst hw9; exact F8.out.set 6 _)
 have R9 := ι (show HeldT w9 (G + 1) 41 [.string ⟨#[]⟩, .string ⟨#[]⟩, .int .u8 0, .bool false, .int .i64 0, .slice none 0 0, .slice none 0 0, .slice none 0 0] by subst hw9; exact R8.out.other (by omega) 6 _)
 have B9 := ι (show Below w.heap.size w w9 by subst hw9; exact B8.out.setCell (p := ⟨G, 6, none⟩) (Nat.le_of_eq HG0.out.symm) _)
 have HO9 := ι (show w9.ownsRow E 55 7 (.slice vA d.evs.length vc) d.evs.length es.flatten by
  subst hw9
  exact own_put HO8.out (fun e => by have := own_base HO8.out G e; omega) 6 _)
 have hE9 : E ≤ w9.heap.size := by subst hw9; simpa using hE8
 clear hw9 F8 R8 B8 HO8 hG8 hE8
 have fq := F9.out.held.cell
 have hG9 := F9.out.lt
 unfold Dc.cs at fq
 try go_wp2_with fail
 clear fq
 go_loopw [20] (fun i wr => ∃ k : Nat, k ≤ d.evs.length ∧ i = .int .i64 k ∧ Hid (∃ d1 d2, Al2 (EvT2 wr) 7 d1 (d.evs.take k) ∧ Al2 (EvC w) 7 d2 (d.evs.drop k) ∧ wr.ownsRow E 55 7 (.slice vA d.evs.length vc) d.evs.length (d1 ++ d2).flatten) ∧ Hid (Below E w9 wr)) (fun i _ => d.evs.length - (intOf i).toNat)
 case atStart => exact ⟨0, Nat.zero_le _, rfl, ι ⟨[], es, trivial, HA.out, HO9.out⟩, ι (Below.refl _ _)⟩
 case round =>
 obtain ⟨k, hk, rfl, HX, BR⟩ := hrel
 have hEr : E ≤ wr.heap.size := by have := BR.out.size; omega
 have FR := ι (F9.out.below BR.out (by omega))
 have BW := ι (show Below w.heap.size w wr from B9.out.trans (BR.out.mono HWE.out))
 by_cases hlt : k < d.evs.length
 ·have hlt2 : (k : Int) < (d.evs.length : Int) := by omega
  obtain ⟨x, hx⟩ : ∃ x, d.evs[k]? = some x := ⟨_, List.getElem?_eq_getElem hlt⟩
  obtain ⟨d1, d2, a1, a2, a3⟩ := HX.out
  have edr : d.evs.drop k = x :: d.evs.drop (k + 1) := by rw [List.drop_eq_getElem_cons hlt]; rw [(List.getElem?_eq_some_iff.1 hx).2]
  have etk : d.evs.take (k + 1) = d.evs.take k ++ [x] := by rw [List.take_add_one, hx]; rfl
  rw [edr] at a2
  obtain ⟨y, d3, rfl⟩ : ∃ y d3, d2 = y :: d3 := by
   cases d2 with
   | nil => exact a2.elim
   | cons y d3 => exact ⟨y, d3, rfl⟩
  obtain ⟨⟨hy1, v2, rfl, hv2⟩, a4⟩ := a2
  have hd1 : d1.flatten.length = k * 7 := by rw [Al2.flat a1, List.length_take]; congr 1; omega
  rw [flat_mid] at a3
  have HA1 := ι a1
  have HA4 := ι a4
  have HEK := ι etk
  have HLK := ι hd1
  have hxl := HO.out.rows x (List.mem_of_getElem? hx)
  have hv3 : RowsAt wr v2 x.rows := SeqAt.ext hv2 RowC.stays BW.out
  obtain ⟨A2, c2, rfl⟩ := hv3.form
  obtain ⟨q, hq⟩ : ∃ q, q = x.rows.length := ⟨_, rfl⟩
  have HEC := ι (show ∀ W, Below wr.heap.size wr W → Calls Tryz.prog 61 #[.agg #[.int .i64 x.id, .int .i64 x.i, .int .i64 x.o, .string (sB x.reg), .int .u8 x.kind, .string (sB x.spk), .slice A2 q c2]] W fun e w' => (∃ v', e = .returned v' ∧ ∃ A c, v' = x.v (.slice A q c) ∧ RowsT w' (.slice A q c) x.rows) ∧ Below W.heap.size W w' from fun W hb => by
   rw [hq]
   refine (eclone_any x (.slice A2 x.rows.length c2) W (SeqAt.ext hv3 RowC.stays hb) hxl).mono ?_
   rintro e w' ⟨⟨r', rfl, hr⟩, hb⟩
   obtain ⟨A', c', rfl⟩ := hr.r.form
   exact ⟨⟨_, rfl, A', c', rfl, hr⟩, hb⟩)
  obtain ⟨g, cap, e3⟩ : ∃ g cap, (Value.slice vA d.evs.length vc) = .slice (some ⟨g, 0, none⟩) d.evs.length cap := by
   obtain ⟨m, hm⟩ : ∃ m, d.evs.length = m + 1 := ⟨d.evs.length - 1, by omega⟩
   have := a3
   rw [hm] at this
   obtain ⟨g, cap, e⟩ := ownsRow_succ this
   exact ⟨g, cap, by rw [hm]; exact e⟩
  injection e3 with e4 _ e5
  subst e4
  subst e5
  have HO3 := ι a3
  have qq : ∀ j u, (x.cs (.slice A2 x.rows.length c2))[j]? = some u → wr.cell? ⟨g, k * 7 + j, none⟩ = some u := fun j u hu => by
   have := a3.cells (g := g) rfl (k * 7 + j) u (by rw [List.getElem?_append_right (by omega), hd1, show k * 7 + j - k * 7 = j by omega, List.getElem?_append_left (by have := (List.getElem?_eq_some_iff.1 hu).1; exact this)]; exact hu)
   rwa [Addr.add_lit, Nat.zero_add] at this
  rw [← hq] at qq HO3
  have q0 := qq 0 _ rfl
  have q1 := qq 1 _ rfl
  have q2 := qq 2 _ rfl
  have q3 := qq 3 _ rfl
  have q4 := qq 4 _ rfl
  have q5 := qq 5 _ rfl
  have q6 := qq 6 _ rfl
  rw [Nat.add_zero] at q0
  have hgr : g < wr.heap.size := World.block_lt_of_cell? wr _ q0
  have HQE := ι hq
  clear hx edr etk a1 a3 a4 hd1 hv2 hv3 HX hy1 qq hq
  go_wp2_with fail
  generalize hw5 : World.alloc wr _ = w5
  obtain ⟨X, hX⟩ : ∃ X, X = wr.heap.size := ⟨_, rfl⟩
  rw [← hX]
  have F5 := ι (show HeldT w5 X 55 [.int .i64 x.id, .int .i64 x.i, .int .i64 x.o, .string (sB x.reg), .int .u8 x.kind, .string (sB x.spk), .slice A2 q c2] by subst hw5; exact HeldT.new hX)
  have B5 := ι (show Below wr.heap.size wr w5 by subst hw5; exact Below.more' _ _)
  have G5 := ι (FR.out.ext B5.out)
  clear hw5 q0 q1 q2 q3 q4 q5 q6
  obtain ⟨N, hN⟩ : ∃ N, N = w5.heap.size := ⟨_, rfl⟩
  have hXN : X < N := by have := F5.out.lt; omega
  have hGN : G < N := by have := G5.out.lt; omega
  have hBN := ι (show wr.heap.size ≤ N by have := B5.out.size; omega)
  have HSZ := ι (show ∀ w', Below N w5 w' → N ≤ w'.heap.size from fun w' h => by have := h.size; omega)
  clear hN
  have d6 : w5.cell? ⟨G, 6, none⟩ = some (.slice (some ⟨g, 0, none⟩) d.evs.length vc) := G5.out.held.cell 6
  have e0 : w5.cell? ⟨X, 0, none⟩ = some (.int .i64 x.id) := F5.out.held.cell 0
  have e1 : w5.cell? ⟨X, 1, none⟩ = some (.int .i64 x.i) := F5.out.held.cell 1
  have e2 : w5.cell? ⟨X, 2, none⟩ = some (.int .i64 x.o) := F5.out.held.cell 2
  have e3 : w5.cell? ⟨X, 3, none⟩ = some (.string (sB x.reg)) := F5.out.held.cell 3
  have e4 : w5.cell? ⟨X, 4, none⟩ = some (.int .u8 x.kind) := F5.out.held.cell 4
  have e5 : w5.cell? ⟨X, 5, none⟩ = some (.string (sB x.spk)) := F5.out.held.cell 5
  have e6 : w5.cell? ⟨X, 6, none⟩ = some (.slice A2 q c2) := F5.out.held.cell 6
  refine wp_region_spec_tail 5 (by kernel_rfl) (fun w' => Below N w5 w') (PhiDj G X g k q c2 d.evs.length vc A2 x) 33 rfl (by kernel_rfl) (by kernel_rfl) (by kernel_rfl) (by kernel_rfl) (by kernel_rfl) (Below.refl _ _).drew ?hops ?hend
  case hops =>
   refine ⟨?o0, ?o1, ?o2, ?o3, ?o4, trivial⟩
   case o0 =>
    intro ev w8 hI δ φ
    have a1 : ev 1 = .pointer (some ⟨G, 0, none⟩) := φ 1 (by kernel_rfl)
    clear δ φ
    try dsimp only
    simp [OpRuns, execOp, evalOf, a1, go_sem]
    exact ⟨hI, rfl, ν rfl⟩
   case o1 =>
    intro ev w8 hI δ φ
    have a25 : ev 25 = .pointer (some ⟨G, 6, none⟩) := (δ 0 25 (by kernel_rfl) rfl).1
    have y0 : w8.cell? ⟨G, 6, none⟩ = some (.slice (some ⟨g, 0, none⟩) d.evs.length vc) := (hI.cell (p := ⟨G, 6, none⟩) hGN).trans d6
    clear δ φ
    try dsimp only
    simp [OpRuns, execOp, evalOf, a25, y0, go_sem]
    exact ⟨hI, rfl, ν rfl⟩
   case o2 =>
    intro ev w8 hI δ φ
    have a3 : ev 3 = .int .i64 (k : Int) := φ 3 (by kernel_rfl)
    clear δ φ
    try dsimp only
    simp [OpRuns, execOp, evalOf, a3, go_sem]
    exact ⟨hI, rfl, ν rfl⟩
   case o3 =>
    intro ev w8 hI δ φ
    have a4 : ev 4 = .pointer (some ⟨X, 0, none⟩) := φ 4 (by kernel_rfl)
    have y0 : w8.cell? ⟨X, 0, none⟩ = some (.int .i64 x.id) := (hI.cell (p := ⟨X, 0, none⟩) hXN).trans e0
    have y1 : w8.cell? ⟨X, 1, none⟩ = some (.int .i64 x.i) := (hI.cell (p := ⟨X, 1, none⟩) hXN).trans e1
    have y2 : w8.cell? ⟨X, 2, none⟩ = some (.int .i64 x.o) := (hI.cell (p := ⟨X, 2, none⟩) hXN).trans e2
    have y3 : w8.cell? ⟨X, 3, none⟩ = some (.string (sB x.reg)) := (hI.cell (p := ⟨X, 3, none⟩) hXN).trans e3
    have y4 : w8.cell? ⟨X, 4, none⟩ = some (.int .u8 x.kind) := (hI.cell (p := ⟨X, 4, none⟩) hXN).trans e4
    have y5 : w8.cell? ⟨X, 5, none⟩ = some (.string (sB x.spk)) := (hI.cell (p := ⟨X, 5, none⟩) hXN).trans e5
    have y6 : w8.cell? ⟨X, 6, none⟩ = some (.slice A2 q c2) := (hI.cell (p := ⟨X, 6, none⟩) hXN).trans e6
    clear δ φ
    try dsimp only
    simp [OpRuns, execOp, evalOf, a4, y0, y1, y2, y3, y4, y5, y6, go_sem]
    exact ⟨hI, rfl, ν rfl⟩
   case o4 =>
   intro ev w8 hI δ φ
   have a28 : ev 28 = .agg #[.int .i64 x.id, .int .i64 x.i, .int .i64 x.o, .string (sB x.reg), .int .u8 x.kind, .string (sB x.spk), .slice A2 q c2] := (δ 3 28 (by kernel_rfl) rfl).1
   clear δ φ
   try dsimp only
   refine runs_call (f := 61) (args := #[.agg #[.int .i64 x.id, .int .i64 x.i, .int .i64 x.o, .string (sB x.reg), .int .u8 x.kind, .string (sB x.spk), .slice A2 q c2]]) (by simp [execOp, evalOf, resolve, invoke, a28, go_sem]) ((HEC.out w8 (B5.out.trans (hI.mono hBN.out))).mono ?_)
   rintro e w9 ⟨⟨v, he, hrow⟩, hb⟩
   exact ⟨_, he, hI.trans (hb.mono (HSZ.out w8 hI)), PhiDj.ext G X g k q c2 d.evs.length vc A2 x hb, fun d hd => by cases hd; exact ⟨trivial, fun e => hrow⟩⟩
  case hend =>
  intro a w6 hdf hsz hI hPhi κ
  replace hdf : a.defers = [] := hdf
  replace hsz : a.tmps.size = 33 := hsz
  have x26 : a.tmps.getD 26 undef = .slice (some ⟨g, 0, none⟩) d.evs.length vc := (hPhi 1 26 (by omega) (by kernel_rfl)).1
  have x27 : a.tmps.getD 27 undef = .int .i64 (k : Int) := (hPhi 2 27 (by omega) (by kernel_rfl)).1
  obtain ⟨R29, r29, x29, hr29⟩ := (hPhi 4 29 (by omega) (by kernel_rfl)).2 rfl
  have x0 := κO κ 0 (Value.agg #[Value.string (sB d.title), Value.string (sB d.lang), Value.int IntKind.u8 d.rate, Value.bool d.drop, Value.int IntKind.i64 d.last, Value.slice rA nr rc, Value.slice eA d.evs.length ec, Value.slice cA nc cc]) rfl rfl
  have x1 := κO κ 1 (Value.pointer (some { block := G, off := 0 })) rfl rfl
  have x2 := κO κ 2 (Value.pointer (some { block := G + 1, off := 0 })) rfl rfl
  have x3 := κO κ 3 (Value.int IntKind.i64 (↑k : Int)) rfl rfl
  have x4 := κO κ 4 (Value.pointer (some { block := X, off := 0 })) rfl rfl
  have x5 := κO κ 5 (u5) rfl rfl
  have x6 := κO κ 6 (u6) rfl rfl
  have x7 := κO κ 7 (Value.slice R7 nr r7) rfl rfl
  have x8 := κO κ 8 (u8) rfl rfl
  have x9 := κO κ 9 (u9) rfl rfl
  have x10 := κO κ 10 (Value.slice R10 nc r10) rfl rfl
  have x11 := κO κ 11 (Value.pointer (some { block := G, off := 5 })) rfl rfl
  have x12 := κO κ 12 (Value.pointer (some { block := G, off := 7 })) rfl rfl
  have x13 := κO κ 13 (Value.pointer (some { block := G, off := 6 })) rfl rfl
  have x14 := κO κ 14 (Value.slice eA d.evs.length ec) rfl rfl
  have x15 := κO κ 15 (Value.slice (some { block := g, off := 0 }) d.evs.length vc) rfl rfl
  have x16 := κO κ 16 (Value.pointer (some { block := G, off := 6 })) rfl rfl
  have x17 := κO κ 17 (Value.pointer (some { block := G, off := 6 })) rfl rfl
  have x18 := κO κ 18 (Value.slice (some { block := g, off := 0 }) d.evs.length vc) rfl rfl
  have x19 := κO κ 19 (Value.int IntKind.i64 (↑d.evs.length : Int)) rfl rfl
  have x20 := κO κ 20 (Value.int IntKind.i64 (↑k : Int)) rfl rfl
  have x21 := κO κ 21 (Value.bool true) rfl rfl
  have x22 := κO κ 22 (Value.int IntKind.i64 (↑k : Int)) rfl rfl
  have x23 := κO κ 23 (Value.pointer (some { block := g, off := k * 7 })) rfl rfl
  have x24 := κO κ 24 (Value.agg #[Value.int IntKind.i64 x.id, Value.int IntKind.i64 x.i, Value.int IntKind.i64 x.o, Value.string (sB x.reg), Value.int IntKind.u8 x.kind, Value.string (sB x.spk), Value.slice A2 q c2]) rfl rfl
  have x30 := κO κ 30 (u30) rfl rfl
  have x31 := κO κ 31 (u31) rfl rfl
  have x32 := κO κ 32 (undef) rfl rfl
  have ea := act_lit hsz hdf
  simp only [getDs] at ea
  rw [x26, x27, x29, x0, x1, x2, x3, x4, x5, x6, x7, x8, x9, x10, x11, x12, x13, x14, x15, x16, x17, x18, x19, x20, x21, x22, x23, x24, x30, x31, x32] at ea
  rw [ea]
  clear ea x26 x27 x29 x0 x1 x2 x3 x4 x5 x6 x7 x8 x9 x10 x11 x12 x13 x14 x15 x16 x17 x18 x19 x20 x21 x22 x23 x24 x30 x31 x32 hPhi κ hdf hsz
  generalize a.tmps.getD 25 undef = u25, a.tmps.getD 28 undef = u28
  clear a
  have BB := ι (show Below wr.heap.size wr w6 from B5.out.trans (hI.mono hBN.out))
  have HO6 := ι (own_ext HO3.out BB.out)
  have HR := ι hr29
  clear d6 e0 e1 e2 e3 e4 e5 e6 hXN hGN hI F5 B5 G5 hr29 HO3 HSZ hBN HEC
  have zz : ∀ j u, (x.cs (.slice A2 q c2))[j]? = some u → w6.cell? ⟨g, k * 7 + j, none⟩ = some u := fun j u hu => by
   have := HO6.out.cells (g := g) rfl (k * 7 + j) u (by rw [List.getElem?_append_right (by rw [HLK.out]; omega), HLK.out, show k * 7 + j - k * 7 = j by omega, List.getElem?_append_left (by have := (List.getElem?_eq_some_iff.1 hu).1; exact this)]; exact hu)
   rwa [Addr.add_lit, Nat.zero_add] at this
  have z0 := zz 0 _ rfl
  have z1 := zz 1 _ rfl
  have z2 := zz 2 _ rfl
  have z3 := zz 3 _ rfl
  have z4 := zz 4 _ rfl
  have z5 := zz 5 _ rfl
  have z6 := zz 6 _ rfl
  rw [Nat.add_zero] at z0
  have zf := own_free HO6.out
  have hg6 : g < w6.heap.size := World.block_lt_of_cell? w6 _ z0
  clear zz
  have ev : x.v (.slice R29 q r29) = .agg #[.int .i64 x.id, .int .i64 x.i, .int .i64 x.o, .string (sB x.reg), .int .u8 x.kind, .string (sB x.spk), .slice R29 q r29] := rfl
  rw [ev]
  clear ev
  go_wp2_with fail
  clear z0 z1 z2 z3 z4 z5 z6 zf
  generalize hw7 : World.setCell _ _ _ = w7
  have hhb := own_block HO6.out (g := g) rfl
  have KT := ι (show KeepT w6 w7 by
   subst hw7
   obtain ⟨cur, hh⟩ := hhb
   exact KeepS.puts (ty := 55) (by unfold IsRow; decide) (x.cs (.slice R29 q r29)) (k * 7) hh)
  have HO7 := ι (show w7.ownsRow E 55 7 (.slice (some ⟨g, 0, none⟩) d.evs.length vc) d.evs.length (d1.flatten ++ (x.cs (.slice R29 q r29) ++ d3.flatten)) by
   subst hw7
   have := own_puts (x.cs (.slice R29 q r29)) (k * 7) HO6.out (by rw [List.length_append, List.length_append, HLK.out]; simp [Ev.cs])
   have e := putL_mid (x.cs (.slice R29 q r29)) (x.cs (.slice A2 q c2)) d1.flatten d3.flatten rfl
   rw [HLK.out] at e
   rw [e] at this
   exact this)
  have B7 := ι (show Below E w9 w7 by subst hw7; exact Below.all (own_base HO6.out g rfl) (x.cs (.slice R29 q r29)) (k * 7) (BR.out.trans (BB.out.mono hEr)))
  have KR := ι (show KeepT wr w7 from (KeepS.ext BB.out).trans KT.out)
  clear hw7 hhb
  go_roundw
  case rel =>
   refine ⟨k + 1, by omega, by go_num, ι ⟨d1 ++ [x.cs (.slice R29 q r29)], d3, ?_, HA4.out, ?_⟩, B7⟩
   ·rw [HEK.out]
    exact Al2.app (HA1.out.mono (fun c x h => h.keep KR.out)) (Al2.one rfl ⟨_, rfl, HR.out.keep KT.out⟩)
   have e : ((d1 ++ [x.cs (.slice R29 q r29)]) ++ d3).flatten = d1.flatten ++ (x.cs (.slice R29 q r29) ++ d3.flatten) := by simp
   rw [e]
   exact HO7.out
  case measure => simp [intOf]; omega
 obtain rfl : k = d.evs.length := by omega
 have HE := ι (show OwnS wr w.heap.size 55 7 EvT2 (.slice vA d.evs.length vc) d.evs by
  obtain ⟨d1, d2, a1, a2, a3⟩ := HX.out
  rw [List.take_length] at a1
  rw [List.drop_length] at a2
  obtain rfl : d2 = [] := by
   cases d2 with
   | nil => rfl
   | cons _ _ => exact a2.elim
  rw [List.append_nil] at a3
  exact ⟨d1, a1, ownsRow_mono a3 HWE.out⟩)
 have RR := ι (R9.out.below BR.out hGE)
 have fq := FR.out.held.cell
 have rq := RR.out.held.cell
 have ry := RR.out.held.free
 have hG10 := FR.out.lt
 have hR10 := RR.out.lt
 unfold Dc.cs at fq
 clear hlt HX
 go_wp2_with (with_reducible refine stop_at ?_)
 unfold StopAt
 clear fq rq ry
 generalize hw10 : World.setCell _ _ _ = w10
 have R10' := ι (show HeldT w10 (G + 1) 41 (d.cs (.slice R7 nr r7) (.slice vA d.evs.length vc) (.slice R10 nc r10)) by subst hw10; exact RR.out.all (d.cs (.slice R7 nr r7) (.slice vA d.evs.length vc) (.slice R10 nc r10)) rfl)
 have B10 := ι (show Below w.heap.size w w10 by subst hw10; exact Below.all (by have := HG0.out; omega) (d.cs (.slice R7 nr r7) (.slice vA d.evs.length vc) (.slice R10 nc r10)) 0 BW.out)
 have HX10 := ι (show OwnS w10 w.heap.size 55 7 EvT2 (.slice vA d.evs.length vc) d.evs by
  subst hw10
  obtain ⟨cs, h1, h2⟩ := HE.out
  have hK : KeepT wr (wr.setCells (G + 1) 0 (d.cs (.slice R7 nr r7) (.slice vA d.evs.length vc) (.slice R10 nc r10))) := KeepS.puts (ty := 41) (by unfold IsRow; decide) _ 0 RR.out
  refine ⟨cs, h1.mono (fun c x h => h.keep hK), own_far (fun e => ?_) (d.cs (.slice R7 nr r7) (.slice vA d.evs.length vc) (.slice R10 nc r10)) 0 h2⟩
  obtain ⟨cur, hh⟩ := own_block h2 e
  have hh2 := RR.out
  unfold HeldT at hh2
  rw [hh] at hh2
  injection hh2 with hh3
  injection hh3 with _ hh4
  exact absurd hh4 (by decide))
 have fr := R10'.out.held.cell
 unfold Dc.cs at fr
 refine bodyPost_ret (by simp [results, Tryz.results32, fr, go_sem]; try rfl) rfl ?_
 exact ⟨⟨_, _, _, _, _, _, _, rfl, HX10.out⟩, B10.out⟩
end Go.Proofs.YtmopjhbfobmklaaGreatDoor
