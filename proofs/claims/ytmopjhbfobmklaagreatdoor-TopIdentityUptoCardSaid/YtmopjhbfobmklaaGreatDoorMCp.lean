/-
  Places of rows, Check of events, their order. The conditions of the contracts are their hypotheses.
-/
import Derived.Test.YtmopjhbfobmklaaGreatDoorMCe
set_option maxRecDepth 100000
set_option maxHeartbeats 40000000
namespace Go.Proofs.YtmopjhbfobmklaaGreatDoor
open Go.RowKit Go.Joins
set_option linter.unusedVariables false
set_option linter.unusedSimpArgs false
def dfB (r : Rg) : Bool := decide (r.name = []) && decide (r.top = 11) && decide (r.hei = 4) && decide (r.lef = 0) && decide (r.wid = 32) && decide (r.ali = 2) && r.bot
theorem eq_run (r : Rg) (w : World) : (Go.binOp .eql 128 r.v rgD.v).run Tryz.prog w = Result.ok (.bool (dfB r)) w := by
 unfold rgD Rg.v
 simp only [dfB]
 simp [go_sem, toL]
 repeat' split
 all_goals simp_all
theorem eqg_run (a b : Operand) (r : Rg) (w : World) : (eqGuard .eql 128 a b r.v rgD.v).run Tryz.prog w = Result.ok () w := by
 unfold rgD Rg.v
 simp [go_sem]
def usB (r : Rg) : Bool := dfB r || (rgE r == 0)
def PhiUsY (G : Nat) (r : Rg) (q : Int) (dq ck : Bool) : Nat → Value → Prop
 | 3, v => v = r.v
 | 4, v => v = rgD.v
 | 5, v => v = .bool (dq)
 | 6, v => v = .bool (dq)
 | 7, v => (dq = false → v = r.v) ∧ (¬ (dq = false) → v = undef)
 | 8, v => (dq = false → v = .int .i64 q) ∧ (¬ (dq = false) → v = undef)
 | 9, v => (dq = false → v = .bool (ck)) ∧ (¬ (dq = false) → v = undef)
 | 10, v => v = .bool (dq || ck)
 | 2, v => v = .bool (dq || ck)
 | _, _ => True
def PhiUs (G : Nat) (r : Rg) (q : Int) (dq ck : Bool) (sl : Nat) (v : Value) (w : World) : Prop := PhiUsY G r q dq ck sl v
theorem usable_any (r : Rg) (w : World) :
  Calls Tryz.prog 123 #[r.v] w fun e w' => e = .returned (.bool (usB r)) ∧ Below w.heap.size w w' := by
 obtain ⟨G, hG⟩ : ∃ G, G = w.heap.size := ⟨_, rfl⟩
 have HEQ := ι (eq_run r)
 have HCK := ι (rcheck_any r)
 obtain ⟨dq, hdq⟩ : ∃ b, b = dfB r := ⟨_, rfl⟩
 rw [← hdq] at HEQ
 obtain ⟨q, hq⟩ : ∃ q, q = rgE r := ⟨_, rfl⟩
 rw [← hq] at HCK
 obtain ⟨ck, hck⟩ : ∃ b, b = (q == 0) := ⟨_, rfl⟩
 have HU := ι (show usB r = (dq || ck) by rw [hdq, hck, hq]; rfl)
 have HQ := ι hck.symm
 clear hdq hck hq
 obtain ⟨r', hr⟩ : ∃ r', r' = r := ⟨_, rfl⟩
 rw [show r.v = .agg #[.string (sB r.name), .int .i64 r.top, .int .i64 r.hei, .int .i64 r.lef, .int .i64 r.wid, .int .u8 r.ali, .bool r.bot] from rfl]
 go_enter Tryz.func123, Tryz.ntmps123
 go_wp2_with fail
 rw [← hG]
 generalize hw5 : World.alloc _ _ = w5
 have FG := ι (show Held w5 G r.cs by subst hw5; exact Held.new hG)
 have B5 := ι (show Below w.heap.size w w5 by subst hw5; exact Below.more' _ _)
 clear hw5 hG hr
 obtain ⟨N, hN⟩ : ∃ N, N = w5.heap.size := ⟨_, rfl⟩
 have hGN : G < N := by have := FG.out.lt; omega
 have HSZ := ι (show ∀ W, Below N w5 W → N ≤ W.heap.size from fun W hW => by have := hW.size; omega)
 have GN := ι (show w.heap.size ≤ N by have := B5.out.size; omega)
 clear hN
 have e0 : w5.cell? ⟨G, 0, none⟩ = some (.string (sB r.name)) := FG.out.cell 0
 have e1 : w5.cell? ⟨G, 1, none⟩ = some (.int .i64 r.top) := FG.out.cell 1
 have e2 : w5.cell? ⟨G, 2, none⟩ = some (.int .i64 r.hei) := FG.out.cell 2
 have e3 : w5.cell? ⟨G, 3, none⟩ = some (.int .i64 r.lef) := FG.out.cell 3
 have e4 : w5.cell? ⟨G, 4, none⟩ = some (.int .i64 r.wid) := FG.out.cell 4
 have e5 : w5.cell? ⟨G, 5, none⟩ = some (.int .u8 r.ali) := FG.out.cell 5
 have e6 : w5.cell? ⟨G, 6, none⟩ = some (.bool r.bot) := FG.out.cell 6
 have heq := HEQ.out
 have hck := HQ.out
 refine wp_region_spec (by kernel_rfl) (fun w' => Below N w5 w') (PhiUs G r q dq ck) 11 rfl (by kernel_rfl) (Below.refl _ _).drew ?hops ?hend
 case hops =>
  refine ⟨?o0, ?o1, ?o2, ?o3, ?o4, ?o5, ?o6, ?o7, ?o8, trivial⟩
  case o0 =>
   intro ev w8 hI δ φ
   have a1 : ev 1 = .pointer (some ⟨G, 0, none⟩) := φ 1 (by kernel_rfl)
   have y0 : w8.cell? ⟨G, 0, none⟩ = some (.string (sB r.name)) := (hI.cell (p := ⟨G, 0, none⟩) hGN).trans e0
   have y1 : w8.cell? ⟨G, 1, none⟩ = some (.int .i64 r.top) := (hI.cell (p := ⟨G, 1, none⟩) hGN).trans e1
   have y2 : w8.cell? ⟨G, 2, none⟩ = some (.int .i64 r.hei) := (hI.cell (p := ⟨G, 2, none⟩) hGN).trans e2
   have y3 : w8.cell? ⟨G, 3, none⟩ = some (.int .i64 r.lef) := (hI.cell (p := ⟨G, 3, none⟩) hGN).trans e3
   have y4 : w8.cell? ⟨G, 4, none⟩ = some (.int .i64 r.wid) := (hI.cell (p := ⟨G, 4, none⟩) hGN).trans e4
   have y5 : w8.cell? ⟨G, 5, none⟩ = some (.int .u8 r.ali) := (hI.cell (p := ⟨G, 5, none⟩) hGN).trans e5
   have y6 : w8.cell? ⟨G, 6, none⟩ = some (.bool r.bot) := (hI.cell (p := ⟨G, 6, none⟩) hGN).trans e6
   clear δ φ
   try dsimp only
   simp [OpRuns, execOp, evalOf, a1, y0, y1, y2, y3, y4, y5, y6, go_sem]
   exact ⟨hI, rfl⟩
  case o1 =>
   intro ev w8 hI δ φ
   clear δ φ
   try dsimp only
   refine runs_call (f := 117) (args := #[]) (by simp [execOp, evalOf, resolve, invoke, go_sem]) ((default_any w8).mono ?_)
   rintro e w9 ⟨he, hb⟩
   exact ⟨_, he, hI.trans (hb.mono (HSZ.out w8 hI)), fun s u h => h, fun d hd => by cases hd; exact rfl⟩
  case o2 =>
   intro ev w8 hI δ φ
   have a3 : ev 3 = r.v := δ 0 3 (by kernel_rfl) rfl
   have a4 : ev 4 = rgD.v := δ 1 4 (by kernel_rfl) rfl
   clear δ φ
   try dsimp only
   simp [OpRuns, execOp, evalOf, a3, a4, heq, eqg_run, go_sem]
   exact ⟨hI, rfl⟩
  case o3 =>
   intro ev w8 hI δ φ
   have a5 : ev 5 = .bool (dq) := δ 2 5 (by kernel_rfl) rfl
   clear δ φ
   try dsimp only
   simp [OpRuns, execOp, evalOf, a5, go_sem]
   exact ⟨hI, rfl⟩
  case o4 =>
   intro ev w8 hI δ φ
   have ag : ev 6 = .bool dq := δ 3 6 (by kernel_rfl) rfl
   refine γ ag rfl (fun hR => ?_) fun hn d hd => by cases hd; exact ⟨fun hr => absurd hr hn, fun _ => rfl⟩
   clear ag
   have a1 : ev 1 = .pointer (some ⟨G, 0, none⟩) := φ 1 (by kernel_rfl)
   have y0 : w8.cell? ⟨G, 0, none⟩ = some (.string (sB r.name)) := (hI.cell (p := ⟨G, 0, none⟩) hGN).trans e0
   have y1 : w8.cell? ⟨G, 1, none⟩ = some (.int .i64 r.top) := (hI.cell (p := ⟨G, 1, none⟩) hGN).trans e1
   have y2 : w8.cell? ⟨G, 2, none⟩ = some (.int .i64 r.hei) := (hI.cell (p := ⟨G, 2, none⟩) hGN).trans e2
   have y3 : w8.cell? ⟨G, 3, none⟩ = some (.int .i64 r.lef) := (hI.cell (p := ⟨G, 3, none⟩) hGN).trans e3
   have y4 : w8.cell? ⟨G, 4, none⟩ = some (.int .i64 r.wid) := (hI.cell (p := ⟨G, 4, none⟩) hGN).trans e4
   have y5 : w8.cell? ⟨G, 5, none⟩ = some (.int .u8 r.ali) := (hI.cell (p := ⟨G, 5, none⟩) hGN).trans e5
   have y6 : w8.cell? ⟨G, 6, none⟩ = some (.bool r.bot) := (hI.cell (p := ⟨G, 6, none⟩) hGN).trans e6
   clear δ φ
   try dsimp only
   simp [OpRuns, execOp, evalOf, a1, y0, y1, y2, y3, y4, y5, y6, go_sem]
   exact ⟨hI, ⟨fun _ => rfl, fun h => absurd hR h⟩⟩
  case o5 =>
   intro ev w8 hI δ φ
   have ag : ev 6 = .bool dq := δ 3 6 (by kernel_rfl) rfl
   refine γ ag rfl (fun hR => ?_) fun hn d hd => by cases hd; exact ⟨fun hr => absurd hr hn, fun _ => rfl⟩
   clear ag
   have a7 : ev 7 = r.v := (δ 4 7 (by kernel_rfl) rfl).1 hR
   clear δ φ
   try dsimp only
   refine runs_call (f := 79) (args := #[r.v]) (by simp [execOp, evalOf, resolve, invoke, a7, go_sem]) ((HCK.out w8).mono ?_)
   rintro e w9 ⟨he, hb⟩
   exact ⟨_, he, hI.trans (hb.mono (HSZ.out w8 hI)), fun s u h => h, fun d hd => by cases hd; exact ⟨fun _ => rfl, fun h => absurd hR h⟩⟩
  case o6 =>
   intro ev w8 hI δ φ
   have ag : ev 6 = .bool dq := δ 3 6 (by kernel_rfl) rfl
   refine γ ag rfl (fun hR => ?_) fun hn d hd => by cases hd; exact ⟨fun hr => absurd hr hn, fun _ => rfl⟩
   clear ag
   have a8 : ev 8 = .int .i64 q := (δ 5 8 (by kernel_rfl) rfl).1 hR
   clear δ φ
   try dsimp only
   simp [OpRuns, execOp, evalOf, a8, go_sem]
   exact ⟨hI, ⟨fun _ => congrArg Value.bool hck, fun h => absurd hR h⟩⟩
  case o7 =>
   intro ev w8 hI δ φ
   have a6 : ev 6 = .bool (dq) := δ 3 6 (by kernel_rfl) rfl
   have ax : dq = false → ev 9 = .bool (ck) := fun hc => (δ 6 9 (by kernel_rfl) rfl).1 hc
   clear δ φ
   obtain ⟨cc, hcc⟩ : ∃ cc, cc = dq := ⟨_, rfl⟩
   rw [← hcc] at a6
   cases cc with
   | true =>
    clear ax
    have hv : Value.bool true = (Value.bool (dq || ck)) := by rw [← hcc]; simp
    clear hcc
    try dsimp only
    simp [OpRuns, execOp, evalOf, a6, go_sem]
    exact ⟨hI, hv⟩
   | false =>
    have ax := ax hcc.symm
    have hv : (Value.bool (ck)) = (Value.bool (dq || ck)) := by rw [← hcc]; simp
    clear hcc
    try dsimp only
    simp [OpRuns, execOp, evalOf, a6, ax, go_sem]
    exact ⟨hI, hv⟩
  case o8 =>
  intro ev w8 hI δ φ
  have a10 : ev 10 = .bool (dq || ck) := δ 7 10 (by kernel_rfl) rfl
  clear δ φ
  try dsimp only
  simp [OpRuns, execOp, evalOf, a10, go_sem]
  exact ⟨hI, rfl⟩
 case hend =>
 intro a w6 hdf hsz hI hPhi κ
 replace hdf : a.defers = [] := hdf
 replace hsz : a.tmps.size = 11 := hsz
 have x2 : a.tmps.getD 2 undef = .bool (dq || ck) := hPhi 8 2 (by kernel_rfl)
 have x0 : a.tmps.getD 0 undef = Value.agg #[Value.string (sB r.name), Value.int IntKind.i64 r.top, Value.int IntKind.i64 r.hei, Value.int IntKind.i64 r.lef, Value.int IntKind.i64 r.wid, Value.int IntKind.u8 r.ali, Value.bool r.bot] := κa κ 0 rfl
 have x1 : a.tmps.getD 1 undef = Value.pointer (some { block := G, off := 0 }) := κa κ 1 rfl
 have ea := act_lit hsz hdf
 simp only [getDs] at ea
 rw [x2, x0, x1] at ea
 rw [ea]
 clear ea x2 x0 x1 hPhi κ hdf hsz
 generalize a.tmps.getD 3 undef = u3, a.tmps.getD 4 undef = u4, a.tmps.getD 5 undef = u5, a.tmps.getD 6 undef = u6, a.tmps.getD 7 undef = u7, a.tmps.getD 8 undef = u8, a.tmps.getD 9 undef = u9, a.tmps.getD 10 undef = u10
 clear a
 have HI6 := ι (show Below w.heap.size w w6 from B5.out.trans (hI.mono GN.out))
 clear heq hck e0 e1 e2 e3 e4 e5 e6 hI HSZ
 go_wp2_with fail
 go_ret
 exact ⟨by rw [HU.out]; rfl, HI6.out⟩
structure Sp where
 row : Int
 col : Int
 len : Int
def Sp.cs (x : Sp) : List Value := [.int .i64 x.row, .int .i64 x.col, .int .i64 x.len]
theorem Sp.cs_len (x : Sp) : x.cs.length = 3 := rfl
theorem infoSp : (Tryz.prog.info? 200).map (fun i => (i.zero, i.size, i.bytes)) = some (some (.agg #[.int .i64 0, .int .i64 0, .int .i64 0]), 3, 24) := by kernel_rfl
theorem us_range {r : Rg} (h : usB r = true) : (0 ≤ r.top ∧ r.top ≤ 14) ∧ (1 ≤ r.hei ∧ r.hei ≤ 15 - r.top) ∧ (0 ≤ r.lef ∧ r.lef ≤ 31) ∧ (1 ≤ r.wid ∧ r.wid ≤ 32 - r.lef) ∧ 1 ≤ r.ali ∧ r.ali ≤ 3 := by
 unfold usB at h
 rw [Bool.or_eq_true] at h
 rcases h with h | h
 ·unfold dfB at h
  simp only [Bool.and_eq_true, decide_eq_true_eq] at h
  obtain ⟨⟨⟨⟨⟨⟨_, h1⟩, h2⟩, h3⟩, h4⟩, h5⟩, _⟩ := h
  rw [h1, h2, h3, h4, h5]
  decide
 have h := eq_of_beq h
 unfold rgE at h
 split at h
 ·cases h
 split at h
 ·cases h
 rename_i h2
 split at h
 ·cases h
 rename_i h3
 simp only [Bool.or_eq_true, Bool.not_eq_true', not_or, Bool.not_eq_false] at h2
 obtain ⟨⟨⟨h4, h5⟩, h6⟩, h7⟩ := h2
 have g4 := inB_yes.1 h4
 have g5 := inB_yes.1 h5
 have g6 := inB_yes.1 h6
 have g7 := inB_yes.1 h7
 omega
def colV (r : Rg) (n : Int) : Int := r.lef + (if r.ali = 3 then r.wid - n else if r.ali = 2 then (r.wid - n) / 2 else 0)
def topV (r : Rg) (n : Nat) : Int := if r.bot = true then r.top + (r.hei - n) else r.top
def plF (wd : Int) : List Int → Int
 | [] => 0
 | n :: t => if n < 0 then 2 else if wd < n then 11 else plF wd t
def plE (r : Rg) (L : List Int) : Int := if usB r = false then 1 else if r.hei < L.length then 9 else plF r.wid L
def spF (r : Rg) (top : Int) : Nat → List Int → List Sp
 | _, [] => []
 | i, n :: t => ⟨top + i, colV r n, n⟩ :: spF r top (i + 1) t
def spV' (r : Rg) (L : List Int) : List Sp := spF r (topV r L.length) 0 L
theorem spF_snoc (r : Rg) (top n : Int) : ∀ (L : List Int) (i : Nat), spF r top i (L ++ [n]) = spF r top i L ++ [⟨top + (i + L.length : Nat), colV r n, n⟩]
 | [], i => by simp [spF]
 | a :: t, i => by
  rw [List.cons_append, spF, spF, spF_snoc r top n t (i + 1), List.cons_append, List.length_cons, show i + 1 + t.length = i + (t.length + 1) by omega]
theorem spF_len (r : Rg) (top : Int) : ∀ (L : List Int) (i : Nat), (spF r top i L).length = L.length
 | [], _ => rfl
 | a :: t, i => by rw [spF, List.length_cons, List.length_cons, spF_len r top t]
theorem plF_drop {L : List Int} {k : Nat} {n wd : Int} (hk : L[k]? = some n) : plF wd (L.drop k) = if n < 0 then 2 else if wd < n then 11 else plF wd (L.drop (k + 1)) := by
 rw [List.drop_eq_getElem_cons (List.getElem?_eq_some_iff.1 hk).1, (List.getElem?_eq_some_iff.1 hk).2]
 rfl
def PlaceP (r : Rg) (L : List Int) (w : World) (e : Ending) (w' : World) : Prop :=
 ((plE r L ≠ 0 ∧ e = .returned (.tuple #[.slice none 0 0, .int .i64 (plE r L)])) ∨ (plE r L = 0 ∧ ∃ A c, e = .returned (.tuple #[.slice A L.length c, .int .i64 0]) ∧ SeqAt w' 3 (Flat Sp.cs) (.slice A L.length c) (spV' r L))) ∧ Below w.heap.size w w'
theorem SeqAt.flat {α : Type} {f : α → List Value} {sz : Nat} {w : World} {A : Option Addr} {xs : List α} {c : Nat} (hf : ∀ x, (f x).length = sz) (hsz : 0 < sz) (h : RowAt w A (xs.flatMap f)) (h1 : xs.length ≤ c) (h2 : c ≤ maxLen) : SeqAt w sz (Flat f) (.slice A xs.length c) xs := by
 refine ⟨A, c, rfl, h1, h2, fun k x hx => ?_⟩
 obtain ⟨u, hu⟩ : ∃ u, (f x)[0]? = some u := ⟨_, List.getElem?_eq_getElem (by rw [hf]; exact hsz)⟩
 obtain ⟨b, o, e, _⟩ := h (k * sz + 0) u ((flat_get hf hx hsz).trans hu)
 refine ⟨b, o, f x, e, hf x, fun j v hv => ?_, rfl⟩
 have hj : j < sz := by rw [← hf x]; exact (List.getElem?_eq_some_iff.1 hv).1
 obtain ⟨b', o', e', hc⟩ := h (k * sz + j) v ((flat_get hf hx hj).trans hv)
 rw [e] at e'
 cases e'
 rwa [Nat.add_assoc]
theorem place_reg (r : Rg) (A : Option Addr) (c : Nat) (L : List Int) (w : World) (h : IntsAt w A L) (hl : L.length ≤ 2000000) :
  Calls Tryz.prog 84 #[r.v, .slice A L.length c] w (PlaceP r L w) := by
 obtain ⟨i0, hi, hz0, hz1, hz2⟩ := info_parts infoSp
 have HI0 := ι (And.intro hi (And.intro hz0 (And.intro hz1 hz2)))
 clear hi hz0 hz1 hz2
 have H := ι h
 clear h
 have HU := ι (usable_any r)
 obtain ⟨G, hG⟩ : ∃ G, G = w.heap.size := ⟨_, rfl⟩
 have HG := ι hG
 rw [show r.v = .agg #[.string (sB r.name), .int .i64 r.top, .int .i64 r.hei, .int .i64 r.lef, .int .i64 r.wid, .int .u8 r.ali, .bool r.bot] from rfl]
 go_enter Tryz.func84, Tryz.ntmps84
 go_wp2_with fail
 rw [← hG]
 generalize hw1 : World.alloc _ _ = w1
 have F1 := ι (show Held w1 G r.cs by subst hw1; exact Held.new hG)
 have B1 := ι (show Below w.heap.size w w1 by subst hw1; exact Below.more' _ _)
 clear hw1 hG
 refine (HU.out w1).mono ?_
 rintro e w2 ⟨rfl, hb⟩
 have B2 := ι (B1.out.trans (hb.mono B1.out.size))
 have F2 := ι (F1.out.ext hb)
 clear hb B1 F1 HU
 have hG2 : G < w2.heap.size := F2.out.lt
 cases hus : usB r with
 | false =>
  have HE := ι (show plE r L = 1 by unfold plE; rw [if_pos hus])
  clear hus
  go_wp2_with fail
  go_ret2
  exact ⟨.inl ⟨by rw [HE.out]; decide, by rw [HE.out]; rfl⟩, B2.out⟩
 | true =>
  obtain ⟨⟨t0, t1⟩, ⟨h0, h1⟩, ⟨l0, l1⟩, ⟨v0, v1⟩, a0, a1⟩ := us_range hus
  have HS := ι hus
  clear hus
  by_cases hh : r.hei < (L.length : Int)
  ·have HE := ι (show plE r L = 9 by unfold plE; rw [if_neg (by rw [HS.out]; decide), if_pos hh])
   have q := F2.out.cell
   unfold Rg.cs at q
   go_wp2_with fail
   go_ret2
   exact ⟨.inl ⟨by rw [HE.out]; decide, by rw [HE.out]; rfl⟩, B2.out⟩
  have HE := ι (show plE r L = plF r.wid L by unfold plE; rw [if_neg (by rw [HS.out]; decide), if_neg hh])
  have hln : L.length ≤ 15 := by omega
  obtain ⟨tp, htp⟩ : ∃ tp, tp = topV r L.length := ⟨_, rfl⟩
  have htr : 0 ≤ tp ∧ tp ≤ 29 := by rw [htp]; unfold topV; split <;> omega
  have HT := ι htp
  have q := F2.out.cell
  unfold Rg.cs at q
  have hS0 : ∀ b, r.bot = b → tp = if b = true then r.top + (r.hei - L.length) else r.top := fun b hb => by rw [htp]; unfold topV; rw [hb]
  clear htp
  cases hbt : r.bot
  all_goals
   have hS := hS0 _ hbt
   clear hS0
   simp only [if_true, Bool.false_eq_true, if_false] at hS
   rw [hbt] at q
   subst hS
   have g1 : IntKind.i64.wrap (r.hei - (L.length : Int)) = r.hei - (L.length : Int) := by rw [IntKind.wrap_i64]; omega
   have g2 : IntKind.i64.wrap (r.top + (r.hei - (L.length : Int))) = r.top + (r.hei - (L.length : Int)) := by rw [IntKind.wrap_i64]; omega
   clear hbt
   go_wp2_with fail
   clear g1 g2
   clear q
   have HN := ι (Nat.le_refl w2.heap.size)
   go_loopw [7, 34] (fun v i wr => ∃ k : Nat, k ≤ L.length ∧ i = .int .i64 k ∧ Hid (wr.ownsRow w2.heap.size 200 3 v k ((spF r (topV r L.length) 0 (L.take k)).flatMap Sp.cs)) ∧ Hid (Below w2.heap.size w2 wr) ∧ Hid (plF r.wid (L.drop k) = plF r.wid L)) (fun _ i _ => L.length - (intOf i).toNat)
   case atStart => exact ⟨0, Nat.zero_le _, rfl, ι (World.ownsRow_nil _ _ _ _), ι (Below.refl _ _), ι rfl⟩
   case round =>
   obtain ⟨k, hk, rfl, HO, BR, HF⟩ := hrel
   have BW := ι (B2.out.trans (BR.out.mono B2.out.size))
   have FR := ι (F2.out.below BR.out hG2)
   by_cases hlt : k < L.length
   ·have hlt2 : (k : Int) < (L.length : Int) := by omega
    obtain ⟨n, hn⟩ : ∃ n, L[k]? = some n := ⟨_, List.getElem?_eq_getElem hlt⟩
    have HD := ι (plF_drop (wd := r.wid) hn)
    have HSN := ι (show spF r (topV r L.length) 0 (L.take (k + 1)) = spF r (topV r L.length) 0 (L.take k) ++ [⟨topV r L.length + k, colV r n, n⟩] by
     rw [take_snocG hn, spF_snoc, List.length_take, Nat.zero_add, Nat.min_eq_left hk])
    obtain ⟨g, o, rfl, c0⟩ := (H.out.below BW.out (Nat.le_refl _)) k (.int .i64 n) (by rw [List.getElem?_map, hn]; rfl)
    have hgr : g < wr.heap.size := World.block_lt_of_cell? wr _ c0
    have hGr : G < wr.heap.size := FR.out.lt
    clear hn
    have q := FR.out.cell
    unfold Rg.cs at q
    by_cases hn0 : n < 0
    ·have e0 : decide (n < 0) = true := by simpa using hn0
     have H3 := ι (show plE r L = 2 by rw [HE.out, ← HF.out, HD.out, if_pos hn0])
     go_wp2_with fail
     go_ret2
     exact ⟨.inl ⟨by rw [H3.out]; decide, by rw [H3.out]; rfl⟩, BW.out⟩
    have e0 : decide (n < 0) = false := by simpa using hn0
    by_cases hnw : r.wid < n
    ·have e1 : decide (r.wid < n) = true := by simpa using hnw
     have H3 := ι (show plE r L = 11 by rw [HE.out, ← HF.out, HD.out, if_neg hn0, if_pos hnw])
     go_wp2_with fail
     go_ret2
     exact ⟨.inl ⟨by rw [H3.out]; decide, by rw [H3.out]; rfl⟩, BW.out⟩
    have e1 : decide (r.wid < n) = false := by simpa using hnw
    have H3 := ι (show plF r.wid (L.drop (k + 1)) = plF r.wid L by rw [← HF.out, HD.out, if_neg hn0, if_neg hnw])
    clear HF HD
    have hcol0 : ∀ a, r.ali = a → colV r n = r.lef + (if a = 3 then r.wid - n else if a = 2 then (r.wid - n) / 2 else 0) := fun a ha => by unfold colV; rw [ha]
    rcases (by omega : r.ali = 1 ∨ r.ali = 2 ∨ r.ali = 3) with ha | ha | ha
    all_goals
     have hcol := hcol0 _ ha
     clear hcol0
     simp only [if_true, Int.reduceEq, if_false] at hcol
     rw [ha] at q
     have hcol0' := hcol
     clear ha hcol
     rw [hcol0'] at HSN
     have w1' : 0 ≤ r.wid - n := by omega
     go_wp2_with (at_builtin; go_loud (refine wpList_append_own _ rfl _ _ 166 rfl w2.heap.size 200 i0 (.agg #[.int .i64 0, .int .i64 0, .int .i64 0]) 3 24 Tryz.underlying166 HI0.out.1 HI0.out.2.1 HI0.out.2.2.1 HI0.out.2.2.2 rfl (by decide) _ k _ rfl (own_ext HO.out ((Below.more' _ _).trans ((Below.more' _ _).mono (by simp)))) ⟨wr.heap.size + 1, 0, none⟩ 1 1 (Sp.cs ⟨_, _, n⟩) rfl rfl (World.news_of_block (heap_at (wr.alloc _) _ (by simp))) (by simp [Value.oneCell', Sp.cs]) (by simp only [maxLen]; omega) (by omega) (by have := BR.out.size; simp; omega) ?_))
     intro v4 w4 ho4 hgr4 _
     have h5 := ho4
     rw [HT.out] at h5
     have HO4 := ι (show w4.ownsRow w2.heap.size 200 3 v4 (k + 1) ((spF r (topV r L.length) 0 (L.take (k + 1))).flatMap Sp.cs) by
      rw [HSN.out, List.flatMap_append, List.flatMap_singleton]
      first | exact h5 | (rw [Int.add_zero]; exact h5))
     have BR4 := ι (show Below w2.heap.size w2 w4 from ((BR.out.alloc BR.out.size _).alloc (by have := BR.out.size; simp; omega) _).grown hgr4 (by have := BR.out.size; simp; omega) (own_base HO.out))
     clear ho4 hgr4 h5 HO BR q
     go_wp2_with fail
     go_roundw
     case rel => exact ⟨k + 1, by omega, by go_num, HO4, BR4, H3⟩
     case measure => simp [intOf]; omega
   obtain rfl : k = L.length := by omega
   have H3 := ι (show plE r L = 0 by rw [HE.out, ← HF.out, List.drop_length]; rfl)
   rw [List.take_length] at HO
   obtain ⟨A5, c5, rfl, hrow, hc1, hc2, _⟩ := row_of_ownK HO.out
   have HS := ι (show SeqAt wr 3 (Flat Sp.cs) (.slice A5 L.length c5) (spV' r L) by
    have e : L.length = (spV' r L).length := (spF_len r _ L 0).symm
    rw [e]
    exact SeqAt.flat Sp.cs_len (by decide) hrow (by rw [← e]; exact hc1) hc2)
   clear hlt HO hrow hc1 hc2
   go_wp2_with fail
   go_ret2
   exact ⟨.inr ⟨H3.out, A5, c5, rfl, HS.out⟩, BW.out⟩
def evR : List (List Rn) → Int
 | [] => 0
 | r :: t => if erowE r = 0 then evR t else erowE r
theorem evR_drop {L : List (List Rn)} {k : Nat} {r : List Rn} (hk : L[k]? = some r) : evR (L.drop k) = if erowE r = 0 then evR (L.drop (k + 1)) else erowE r := by
 rw [List.drop_eq_getElem_cons (List.getElem?_eq_some_iff.1 hk).1, (List.getElem?_eq_some_iff.1 hk).2]
 rfl
def evE (x : Ev) (regs : List Rg) : Int :=
 if x.id < 1 ∨ 1099511627776 < x.id ∨ spB x.i x.o = false then 2
 else if (findV regs x.reg).2 = false then 6
 else if kdB x.kind = false then 3
 else if x.spk ≠ [] ∧ nmB x.spk = false then 5
 else if x.rows.length = 0 ∨ 4 < x.rows.length then 9
 else if evR x.rows = 0 then plE (findV regs x.reg).1 (lensV x.rows) else evR x.rows
def RowI (L : List Int) (v : Value) (w : World) : Prop := ∃ A c, v = .slice A L.length c ∧ IntsAt w A L
theorem RowI.ext {L : List Int} {v : Value} {w w' : World} (h : RowI L v w) (hb : Below w.heap.size w w') : RowI L v w' := by
 obtain ⟨A, c, h1, h2⟩ := h
 exact ⟨A, c, h1, h2.ext hb⟩
def PairV (n : Int) (v : Value) (w : World) : Prop := ∃ u, v = .tuple #[u, .int .i64 n]
theorem PairV.ext {n : Int} {v : Value} {w w' : World} (h : PairV n v w) (hb : Below w.heap.size w w') : PairV n v w' := h
theorem place_pair (r : Rg) (A : Option Addr) (c : Nat) (L : List Int) (w : World) (h : IntsAt w A L) (hl : L.length ≤ 2000000) :
  Calls Tryz.prog 84 #[r.v, .slice A L.length c] w fun e w' => (∃ v, e = .returned v ∧ PairV (plE r L) v w') ∧ Below w.heap.size w w' :=
 (place_reg r A c L w h hl).mono fun e w' ⟨h, hb⟩ => by
  rcases h with ⟨_, he⟩ | ⟨h0, A', c', he, _⟩
  ·exact ⟨⟨_, he, _, rfl⟩, hb⟩
  exact ⟨⟨_, he, _, by rw [h0]⟩, hb⟩
theorem lens_row (x : Ev) (rv : Value) (w : World) (h : RowsAt w rv x.rows) (hl : SmlR x.rows) (hw : Wt w) :
  Calls Tryz.prog 85 #[x.v rv] w fun e w' => (∃ v, e = .returned v ∧ RowI (lensV x.rows) v w') ∧ Below w.heap.size w w' :=
 (lens_any x rv w h hl hw).mono fun e w' ⟨⟨A, c, he, hi, _⟩, hb⟩ => ⟨⟨_, he, A, c, rfl, hi⟩, hb⟩
def PhiEcY (G G5 : Nat) (A : Option Addr) (c : Nat) (x : Ev) (fn : List UInt8) (ft fh fl fw fa : Int) (fb : Bool) (L : List Int) (q : Int) : Nat → Value → Prop
 | 77, v => v = .agg #[.string (sB fn), .int .i64 ft, .int .i64 fh, .int .i64 fl, .int .i64 fw, .int .u8 fa, .bool fb]
 | 78, v => v = .agg #[.int .i64 x.id, .int .i64 x.i, .int .i64 x.o, .string (sB x.reg), .int .u8 x.kind, .string (sB x.spk), .slice A x.rows.length c]
 | 82, v => v = .int .i64 q
 | 11, v => v = .int .i64 q
 | _, _ => True
def PhiEc (G G5 : Nat) (A : Option Addr) (c : Nat) (x : Ev) (fn : List UInt8) (ft fh fl fw fa : Int) (fb : Bool) (L : List Int) (q : Int) (sl : Nat) (v : Value) (w : World) : Prop := PhiEcY G G5 A c x fn ft fh fl fw fa fb L q sl v ∧ (sl = 76 → PairV q v w) ∧ (sl = 79 → RowI L v w) ∧ (sl = 80 → PairV q v w)
theorem PhiEc.ext (G G5 : Nat) (A : Option Addr) (c : Nat) (x : Ev) (fn : List UInt8) (ft fh fl fw fa : Int) (fb : Bool) (L : List Int) (q : Int) {w w' : World} (hb : Below w.heap.size w w') : ∀ sl v, PhiEc G G5 A c x fn ft fh fl fw fa fb L q sl v w → PhiEc G G5 A c x fn ft fh fl fw fa fb L q sl v w' := fun sl v h => ⟨h.1, fun e => PairV.ext (h.2.1 e) hb, fun e => RowI.ext (h.2.2.1 e) hb, fun e => PairV.ext (h.2.2.2 e) hb⟩
theorem echeck_any (x : Ev) (rv gv : Value) (regs : List Rg) (w : World) (h : RowsAt w rv x.rows) (hl : SmlR x.rows) (hg : RegsAt w gv regs) (hgl : regs.length ≤ 1000) (hk : 0 ≤ x.kind ∧ x.kind ≤ 255) (hw : Wt w) :
  Calls Tryz.prog 45 #[x.v rv, gv] w fun e w' => e = .returned (.int .i64 (evE x regs)) ∧ Below w.heap.size w w' := by
 have H := ι h
 have HL := ι hl
 have HW := ι hw
 have HGR := ι hg
 have HGL := ι hgl
 have hll := hl.1
 obtain ⟨A, c, rfl⟩ := h.form
 obtain ⟨A2, c2, rfl⟩ := hg.form
 clear h hl hw hg hgl
 obtain ⟨f, hf⟩ : ∃ f, f = findV regs x.reg := ⟨_, rfl⟩
 obtain ⟨nk, hnk⟩ : ∃ b, b = kdB x.kind := ⟨_, rfl⟩
 obtain ⟨sp, hsp⟩ : ∃ b, b = spB x.i x.o := ⟨_, rfl⟩
 obtain ⟨nm, hnm⟩ : ∃ b, b = nmB x.spk := ⟨_, rfl⟩
 have HE := ι (show evE x regs = if x.id < 1 ∨ 1099511627776 < x.id ∨ sp = false then 2 else if f.2 = false then 6 else if nk = false then 3 else if x.spk ≠ [] ∧ nm = false then 5 else if x.rows.length = 0 ∨ 4 < x.rows.length then 9 else if evR x.rows = 0 then plE f.1 (lensV x.rows) else evR x.rows by rw [hf, hnk, hsp, hnm]; rfl)
 have HFD := ι (fun W (hb : Below w.heap.size w W) => hf ▸ find_any (.slice A2 regs.length c2) regs x.reg W (HGR.out.ext (Flat.stays _) hb) HGL.out)
 have HSP := ι (fun W => hsp ▸ spans_any x.i x.o W)
 have HKD := ι (fun W => (kind_any x.kind hk.1 hk.2 W : Calls _ _ _ _ _))
 have HNM := ι (fun W => show Calls Tryz.prog 52 #[.string (sB x.spk)] W fun e w' => e = .returned (.bool nm) ∧ W = w' from by rw [hnm]; exact name_any (sB x.spk) W)
 have HNK := ι hnk
 obtain ⟨G, hG⟩ : ∃ G, G = w.heap.size := ⟨_, rfl⟩
 clear hf hnk hsp hnm hk
 obtain ⟨⟨fn, ft, fh, fl, fw, fa, fb⟩, f2⟩ := f
 rw [show x.v (.slice A x.rows.length c) = .agg #[.int .i64 x.id, .int .i64 x.i, .int .i64 x.o, .string (sB x.reg), .int .u8 x.kind, .string (sB x.spk), .slice A x.rows.length c] from rfl]
 go_enter Tryz.func45, Tryz.ntmps45
 go_wp2_with fail
 rw [← hG]
 generalize hw1 : World.alloc _ _ = w1
 have F1 := ι (show Held w1 G (x.cs (.slice A x.rows.length c)) by subst hw1; exact Held.new hG)
 have B1 := ι (show Below w.heap.size w w1 by subst hw1; exact Below.more' _ _)
 clear hw1 hG
 refine (HFD.out w1 B1.out).mono ?_
 rintro e w2 ⟨rfl, hb⟩
 have B2 := ι (B1.out.trans (hb.mono B1.out.size))
 have F2 := ι (F1.out.ext hb)
 clear hb B1 F1 HFD
 unfold Rg.v
 dsimp only
 have q := F2.out.cell
 have hG2 := F2.out.lt
 unfold Ev.cs at q
 by_cases hi1 : x.id < 1
 ·have t1 : decide (x.id < 1) = true := by simpa using hi1
  have H3 := ι (show evE x regs = 2 by rw [HE.out, if_pos (.inl hi1)])
  go_wp2_with fail
  go_ret
  exact ⟨by rw [H3.out]; rfl, B2.out.trans ((Below.more' _ _).mono B2.out.size)⟩
 by_cases hi2 : 1099511627776 < x.id
 ·have t1 : decide (x.id < 1) = false := by simpa using hi1
  have t2 : decide (1099511627776 < x.id) = true := by simpa using hi2
  have H3 := ι (show evE x regs = 2 by rw [HE.out, if_pos (.inr (.inl hi2))])
  go_wp2_with fail
  go_ret
  exact ⟨by rw [H3.out]; rfl, B2.out.trans ((Below.more' _ _).mono B2.out.size)⟩
 have t1 : decide (x.id < 1) = false := by simpa using hi1
 have t2 : decide (1099511627776 < x.id) = false := by simpa using hi2
 have HI := ι (And.intro hi1 hi2)
 clear hi1 hi2
 go_wp2_with fail
 generalize hw3 : World.alloc _ _ = w3
 obtain ⟨G5, hG5⟩ : ∃ G5, G5 = w2.heap.size := ⟨_, rfl⟩
 rw [← hG5]
 have F5 := ι (show Held w3 G5 (Rg.cs ⟨fn, ft, fh, fl, fw, fa, fb⟩) by subst hw3; exact Held.new hG5)
 have F3 := ι (show Held w3 G (x.cs (.slice A x.rows.length c)) by subst hw3; exact F2.out.alloc _)
 have B3 := ι (show Below w.heap.size w w3 by subst hw3; exact B2.out.trans ((Below.more' _ _).mono B2.out.size))
 clear hw3 hG5 q F2
 refine (HSP.out w3).mono ?_
 rintro e w4 ⟨rfl, hb⟩
 have B4 := ι (B3.out.trans (hb.mono B3.out.size))
 have F4 := ι (F3.out.ext hb)
 have F54 := ι (F5.out.ext hb)
 clear hb F3 F5 B3
 have q := F4.out.cell
 have hG4 := F4.out.lt
 unfold Ev.cs at q
 cases sp with
 | false =>
  have H3 := ι (show evE x regs = 2 by rw [HE.out, if_pos (.inr (.inr rfl))])
  go_wp2_with fail
  go_ret
  exact ⟨by rw [H3.out]; rfl, B4.out⟩
 | true =>
 have HE1 := ι (show evE x regs = if f2 = false then 6 else if nk = false then 3 else if x.spk ≠ [] ∧ nm = false then 5 else if x.rows.length = 0 ∨ 4 < x.rows.length then 9 else if evR x.rows = 0 then plE ⟨fn, ft, fh, fl, fw, fa, fb⟩ (lensV x.rows) else evR x.rows by rw [HE.out, if_neg (by have := HI.out; rintro (h | h | h); omega; omega; exact absurd h (by decide))])
 clear HE t1 t2
 cases f2 with
 | false =>
  have H3 := ι (show evE x regs = 6 by rw [HE1.out, if_pos rfl])
  go_wp2_with fail
  go_ret
  exact ⟨by rw [H3.out]; rfl, B4.out⟩
 | true =>
 have HE2 := ι (show evE x regs = if nk = false then 3 else if x.spk ≠ [] ∧ nm = false then 5 else if x.rows.length = 0 ∨ 4 < x.rows.length then 9 else if evR x.rows = 0 then plE ⟨fn, ft, fh, fl, fw, fa, fb⟩ (lensV x.rows) else evR x.rows by rw [HE1.out, if_neg (by decide)])
 clear HE1
 go_wp2_with fail
 refine (HKD.out w4).mono ?_
 rintro e w5 ⟨s, rfl, hs, hb⟩
 have B5 := ι (B4.out.trans (hb.mono B4.out.size))
 have F55 := ι (F54.out.ext hb)
 have FE5 := ι (F4.out.ext hb)
 rw [← HNK.out] at hs
 clear hb q F4 F54 B4 HKD HNK
 have q := FE5.out.cell
 have hG5' := FE5.out.lt
 unfold Ev.cs at q
 cases nk with
 | false =>
  have t3 : (sB s).toList.isEmpty = true := by rw [str_emp, hs]; rfl
  have H3 := ι (show evE x regs = 3 by rw [HE2.out, if_pos rfl])
  clear hs
  go_wp2_with fail
  go_ret
  exact ⟨by rw [H3.out]; rfl, B5.out⟩
 | true =>
 have HE3 := ι (show evE x regs = if x.spk ≠ [] ∧ nm = false then 5 else if x.rows.length = 0 ∨ 4 < x.rows.length then 9 else if evR x.rows = 0 then plE ⟨fn, ft, fh, fl, fw, fa, fb⟩ (lensV x.rows) else evR x.rows by rw [HE2.out, if_neg (by decide)])
 have t3 : (sB s).toList.isEmpty = false := by rw [str_emp, hs]; rfl
 clear HE2 hs
 obtain ⟨sk, hsk⟩ : ∃ b, b = x.spk.isEmpty := ⟨_, rfl⟩
 have hske : (x.spk ≠ [] ∧ nm = false) ↔ (sk = false ∧ nm = false) := by
  rw [hsk]
  cases x.spk with
  | nil => simp
  | cons _ _ => simp
 have t4 : (sB x.spk).toList.isEmpty = sk := by rw [str_emp, hsk]
 have HE4 := ι (show evE x regs = if sk = false ∧ nm = false then 5 else if x.rows.length = 0 ∨ 4 < x.rows.length then 9 else if evR x.rows = 0 then plE ⟨fn, ft, fh, fl, fw, fa, fb⟩ (lensV x.rows) else evR x.rows by
  rw [HE3.out]
  by_cases h : x.spk ≠ [] ∧ nm = false
  ·rw [if_pos h, if_pos (hske.1 h)]
  rw [if_neg h, if_neg (fun h' => h (hske.2 h'))])
 clear hske hsk HE3
 by_cases hbad : sk = false ∧ nm = false
 ·obtain ⟨rfl, rfl⟩ := hbad
  have H3 := ι (show evE x regs = 5 by rw [HE4.out, if_pos ⟨rfl, rfl⟩])
  go_wp2_with (go_at_call 52; refine (HNM.out _).mono ?_; rintro e w1 ⟨rfl, rfl⟩)
  go_ret
  exact ⟨by rw [H3.out]; rfl, B5.out⟩
 have HE5 := ι (show evE x regs = if x.rows.length = 0 ∨ 4 < x.rows.length then 9 else if evR x.rows = 0 then plE ⟨fn, ft, fh, fl, fw, fa, fb⟩ (lensV x.rows) else evR x.rows by rw [HE4.out, if_neg hbad])
 clear HE4
 by_cases hr0 : x.rows.length = 0 ∨ 4 < x.rows.length
 ·have H3 := ι (show evE x regs = 9 by rw [HE5.out, if_pos hr0])
  rcases hr0 with hr0 | hr0
  ·have t5 : ((x.rows.length : Int) == 0) = true := by simp [hr0]
   have hr0' : (x.rows.length : Int) = 0 := by omega
   cases sk <;> cases nm <;> first | exact absurd ⟨rfl, rfl⟩ hbad | skip
   all_goals
    clear hbad hr0'
    go_wp2_with (go_at_call 52; refine (HNM.out _).mono ?_; rintro e w1 ⟨rfl, rfl⟩)
    go_ret
    exact ⟨by rw [H3.out]; rfl, B5.out⟩
  have t5 : ((x.rows.length : Int) == 0) = false := by rw [beq_eq_false_iff_ne]; omega
  have t6 : (4 : Int) < (x.rows.length : Int) := by omega
  cases sk <;> cases nm <;> first | exact absurd ⟨rfl, rfl⟩ hbad | skip
  all_goals
   clear hbad
   go_wp2_with (go_at_call 52; refine (HNM.out _).mono ?_; rintro e w1 ⟨rfl, rfl⟩)
   go_ret
   exact ⟨by rw [H3.out]; rfl, B5.out⟩
 have HE6 := ι (show evE x regs = if evR x.rows = 0 then plE ⟨fn, ft, fh, fl, fw, fa, fb⟩ (lensV x.rows) else evR x.rows by rw [HE5.out, if_neg hr0])
 have t5 : ((x.rows.length : Int) == 0) = false := by rw [beq_eq_false_iff_ne]; omega
 have t6 : ¬ ((4 : Int) < (x.rows.length : Int)) := by omega
 have HR4 := ι (show x.rows.length ≤ 4 by omega)
 clear HE5 hr0
 cases sk <;> cases nm <;> first | exact absurd ⟨rfl, rfl⟩ hbad | skip
 all_goals
  clear hbad
  go_wp2_with (go_at_call 52; refine (HNM.out _).mono ?_; rintro e w1 ⟨rfl, rfl⟩)
  clear q t3 t4 t5 t6
  have HG5 := ι hG5'
  have hGw5 : G < w5.heap.size := FE5.out.lt
  have hG5w : G5 < w5.heap.size := F55.out.lt
  go_loopw [66] (fun i wr => ∃ k : Nat, k ≤ x.rows.length ∧ i = .int .i64 k ∧ Hid (evR (x.rows.drop k) = evR x.rows) ∧ Hid (Below w5.heap.size w5 wr)) (fun i _ => x.rows.length - (intOf i).toNat)
  case atStart => exact ⟨0, Nat.zero_le _, rfl, ι rfl, ι (Below.refl _ _)⟩
  case round =>
  obtain ⟨k, hk, rfl, HF, BR⟩ := hrel
  have BW := ι (B5.out.trans (BR.out.mono B5.out.size))
  by_cases hlt : k < x.rows.length
  ·have hlt2 : (k : Int) < (x.rows.length : Int) := by omega
   obtain ⟨r, hx⟩ : ∃ r, x.rows[k]? = some r := ⟨_, List.getElem?_eq_getElem hlt⟩
   have HD := ι (evR_drop hx)
   obtain ⟨b, o', u, rfl, q0, hu⟩ := RowsAt.get (H.out.ext RowC.stays BW.out) hx
   have HU := ι hu
   obtain ⟨A3, c3, rfl⟩ := hu.form
   have HS := ι (HL.out.2 r (List.mem_of_getElem? hx))
   have hbr : b < wr.heap.size := World.block_lt_of_cell? wr _ q0
   clear hx hu
   go_wp2_with fail
   generalize hw6 : World.alloc wr _ = w6
   have B6 := ι (show Below wr.heap.size wr w6 by subst hw6; exact Below.more' _ _)
   clear hw6 q0
   refine (erow_any _ r w6 (HU.out.ext (Flat.stays _) B6.out) HS.out (HW.out.on (BW.out.trans (B6.out.mono BW.out.size)))).mono ?_
   rintro e w7 ⟨rfl, hb⟩
   have B7 := ι (B6.out.trans (hb.mono B6.out.size))
   clear hb B6
   by_cases h0 : erowE r = 0
   ·have H3 := ι (show evR (x.rows.drop (k + 1)) = evR x.rows by rw [← HF.out, HD.out, if_pos h0])
    rw [h0]
    clear h0 HD HF
    go_wp2_with fail
    go_roundw
    case rel => exact ⟨k + 1, by omega, by go_num, H3, ι (BR.out.trans (B7.out.mono BR.out.size))⟩
    case measure => simp [intOf]; omega
   have t0 : (erowE r != 0) = true := by simpa using h0
   have H3 := ι (show evE x regs = erowE r by
    have e : evR x.rows = erowE r := by rw [← HF.out, HD.out, if_neg h0]
    rw [HE6.out, if_neg (by rw [e]; exact h0), e])
   clear h0 HD HF
   go_wp2_with fail
   go_ret
   exact ⟨by rw [H3.out]; rfl, BW.out.trans (B7.out.mono BW.out.size)⟩
  obtain rfl : k = x.rows.length := by omega
  have H3 := ι (show evE x regs = plE ⟨fn, ft, fh, fl, fw, fa, fb⟩ (lensV x.rows) by
   have e : evR x.rows = 0 := by rw [← HF.out, List.drop_length]; rfl
   rw [HE6.out, if_pos e])
  have hkk : ¬ ((x.rows.length : Int) < (x.rows.length : Int)) := by omega
  clear hlt HF
  go_wp2_with fail
  obtain ⟨w9, hw9⟩ : ∃ w9, w9 = wr := ⟨_, rfl⟩
  rw [← hw9] at BR BW ⊢
  obtain ⟨L, hLL⟩ : ∃ L, L = lensV x.rows := ⟨_, rfl⟩
  rw [← hLL] at H3
  obtain ⟨q, hqq⟩ : ∃ q, q = plE ⟨fn, ft, fh, fl, fw, fa, fb⟩ L := ⟨_, rfl⟩
  rw [← hqq] at H3
  obtain ⟨N, hN⟩ : ∃ N, N = w9.heap.size := ⟨_, rfl⟩
  have FA := ι (FE5.out.below BR.out hGw5)
  have FB := ι (F55.out.below BR.out hG5w)
  have hGN : G < N := by have := FA.out.lt; omega
  have hG5N : G5 < N := by have := FB.out.lt; omega
  have HSZ := ι (show ∀ W, Below N w9 W → N ≤ W.heap.size from fun W hW => by have := hW.size; omega)
  have BW9 := ι (show ∀ W, Below N w9 W → Below w.heap.size w W from fun W hW => BW.out.trans (hW.mono (by have := BW.out.size; omega)))
  clear hN
  have e0 : w9.cell? ⟨G, 0, none⟩ = some (.int .i64 x.id) := FA.out.cell 0
  have e1 : w9.cell? ⟨G, 1, none⟩ = some (.int .i64 x.i) := FA.out.cell 1
  have e2 : w9.cell? ⟨G, 2, none⟩ = some (.int .i64 x.o) := FA.out.cell 2
  have e3 : w9.cell? ⟨G, 3, none⟩ = some (.string (sB x.reg)) := FA.out.cell 3
  have e4 : w9.cell? ⟨G, 4, none⟩ = some (.int .u8 x.kind) := FA.out.cell 4
  have e5 : w9.cell? ⟨G, 5, none⟩ = some (.string (sB x.spk)) := FA.out.cell 5
  have e6 : w9.cell? ⟨G, 6, none⟩ = some (.slice A x.rows.length c) := FA.out.cell 6
  have d0 : w9.cell? ⟨G5, 0, none⟩ = some (.string (sB fn)) := FB.out.cell 0
  have d1 : w9.cell? ⟨G5, 1, none⟩ = some (.int .i64 ft) := FB.out.cell 1
  have d2 : w9.cell? ⟨G5, 2, none⟩ = some (.int .i64 fh) := FB.out.cell 2
  have d3 : w9.cell? ⟨G5, 3, none⟩ = some (.int .i64 fl) := FB.out.cell 3
  have d4 : w9.cell? ⟨G5, 4, none⟩ = some (.int .i64 fw) := FB.out.cell 4
  have d5 : w9.cell? ⟨G5, 5, none⟩ = some (.int .u8 fa) := FB.out.cell 5
  have d6 : w9.cell? ⟨G5, 6, none⟩ = some (.bool fb) := FB.out.cell 6
  have HLN := ι (show ∀ W, Below N w9 W → Calls Tryz.prog 85 #[x.v (.slice A x.rows.length c)] W fun e w' => (∃ v, e = .returned v ∧ RowI L v w') ∧ Below W.heap.size W w' from fun W hW => by
   rw [hLL]
   exact lens_row x _ W (H.out.ext RowC.stays (BW9.out W hW)) HL.out (HW.out.on (BW9.out W hW)))
  have HLL := ι (show L.length ≤ 2000000 by rw [hLL]; unfold lensV; rw [List.length_map]; exact hll)
  have HQ := ι hqq
  refine wp_region_spec (by kernel_rfl) (fun w' => Below N w9 w') (PhiEc G G5 A c x fn ft fh fl fw fa fb L q) 84 rfl (by kernel_rfl) (Below.refl _ _).drew ?hops ?hend
  case hops =>
   refine ⟨?o0, ?o1, ?o2, ?o3, ?o4, ?o5, ?o6, ?o7, ?o8, trivial⟩
   case o0 =>
    intro ev w8 hI δ φ
    have a5 : ev 5 = .pointer (some ⟨G5, 0, none⟩) := φ 5 (by kernel_rfl)
    have y0 : w8.cell? ⟨G5, 0, none⟩ = some (.string (sB fn)) := (hI.cell (p := ⟨G5, 0, none⟩) hG5N).trans d0
    have y1 : w8.cell? ⟨G5, 1, none⟩ = some (.int .i64 ft) := (hI.cell (p := ⟨G5, 1, none⟩) hG5N).trans d1
    have y2 : w8.cell? ⟨G5, 2, none⟩ = some (.int .i64 fh) := (hI.cell (p := ⟨G5, 2, none⟩) hG5N).trans d2
    have y3 : w8.cell? ⟨G5, 3, none⟩ = some (.int .i64 fl) := (hI.cell (p := ⟨G5, 3, none⟩) hG5N).trans d3
    have y4 : w8.cell? ⟨G5, 4, none⟩ = some (.int .i64 fw) := (hI.cell (p := ⟨G5, 4, none⟩) hG5N).trans d4
    have y5 : w8.cell? ⟨G5, 5, none⟩ = some (.int .u8 fa) := (hI.cell (p := ⟨G5, 5, none⟩) hG5N).trans d5
    have y6 : w8.cell? ⟨G5, 6, none⟩ = some (.bool fb) := (hI.cell (p := ⟨G5, 6, none⟩) hG5N).trans d6
    clear δ φ
    try dsimp only
    simp [OpRuns, execOp, evalOf, a5, y0, y1, y2, y3, y4, y5, y6, go_sem]
    exact ⟨hI, rfl, ν rfl, ν rfl, ν rfl⟩
   case o1 =>
    intro ev w8 hI δ φ
    have a2 : ev 2 = .pointer (some ⟨G, 0, none⟩) := φ 2 (by kernel_rfl)
    have y0 : w8.cell? ⟨G, 0, none⟩ = some (.int .i64 x.id) := (hI.cell (p := ⟨G, 0, none⟩) hGN).trans e0
    have y1 : w8.cell? ⟨G, 1, none⟩ = some (.int .i64 x.i) := (hI.cell (p := ⟨G, 1, none⟩) hGN).trans e1
    have y2 : w8.cell? ⟨G, 2, none⟩ = some (.int .i64 x.o) := (hI.cell (p := ⟨G, 2, none⟩) hGN).trans e2
    have y3 : w8.cell? ⟨G, 3, none⟩ = some (.string (sB x.reg)) := (hI.cell (p := ⟨G, 3, none⟩) hGN).trans e3
    have y4 : w8.cell? ⟨G, 4, none⟩ = some (.int .u8 x.kind) := (hI.cell (p := ⟨G, 4, none⟩) hGN).trans e4
    have y5 : w8.cell? ⟨G, 5, none⟩ = some (.string (sB x.spk)) := (hI.cell (p := ⟨G, 5, none⟩) hGN).trans e5
    have y6 : w8.cell? ⟨G, 6, none⟩ = some (.slice A x.rows.length c) := (hI.cell (p := ⟨G, 6, none⟩) hGN).trans e6
    clear δ φ
    try dsimp only
    simp [OpRuns, execOp, evalOf, a2, y0, y1, y2, y3, y4, y5, y6, go_sem]
    exact ⟨hI, rfl, ν rfl, ν rfl, ν rfl⟩
   case o2 =>
    intro ev w8 hI δ φ
    have a78 : ev 78 = .agg #[.int .i64 x.id, .int .i64 x.i, .int .i64 x.o, .string (sB x.reg), .int .u8 x.kind, .string (sB x.spk), .slice A x.rows.length c] := (δ 1 78 (by kernel_rfl) rfl).1
    clear δ φ
    try dsimp only
    refine runs_call (f := 85) (args := #[.agg #[.int .i64 x.id, .int .i64 x.i, .int .i64 x.o, .string (sB x.reg), .int .u8 x.kind, .string (sB x.spk), .slice A x.rows.length c]]) (by simp [execOp, evalOf, resolve, invoke, a78, go_sem]) ((HLN.out w8 hI).mono ?_)
    rintro e w9 ⟨⟨v, he, hrow⟩, hb⟩
    exact ⟨_, he, hI.trans (hb.mono (HSZ.out w8 hI)), PhiEc.ext G G5 A c x fn ft fh fl fw fa fb L q hb, fun d hd => by cases hd; exact ⟨trivial, ν rfl, fun e => hrow, ν rfl⟩⟩
   case o3 =>
    intro ev w8 hI δ φ
    have a77 : ev 77 = .agg #[.string (sB fn), .int .i64 ft, .int .i64 fh, .int .i64 fl, .int .i64 fw, .int .u8 fa, .bool fb] := (δ 0 77 (by kernel_rfl) rfl).1
    obtain ⟨R79, r79, a79, hr79⟩ := (δ 2 79 (by kernel_rfl) rfl).2.2.1 rfl
    clear δ φ
    try dsimp only
    refine runs_call (f := 84) (args := #[.agg #[.string (sB fn), .int .i64 ft, .int .i64 fh, .int .i64 fl, .int .i64 fw, .int .u8 fa, .bool fb], .slice R79 L.length r79]) (by simp [execOp, evalOf, resolve, invoke, a77, a79, go_sem]) ((hqq ▸ place_pair ⟨fn, ft, fh, fl, fw, fa, fb⟩ R79 r79 L w8 hr79 HLL.out).mono ?_)
    rintro e w9 ⟨⟨v, he, hrow⟩, hb⟩
    exact ⟨_, he, hI.trans (hb.mono (HSZ.out w8 hI)), PhiEc.ext G G5 A c x fn ft fh fl fw fa fb L q hb, fun d hd => by cases hd; exact ⟨trivial, ν rfl, ν rfl, fun e => hrow⟩⟩
   case o4 =>
    intro ev w8 hI δ φ
    obtain ⟨R80, a80⟩ := (δ 3 80 (by kernel_rfl) rfl).2.2.2 rfl
    clear δ φ
    try dsimp only
    simp [OpRuns, execOp, evalOf, a80, go_sem]
    exact ⟨hI, trivial, fun e => ⟨_, rfl⟩, ν rfl, ν rfl⟩
   case o5 =>
    intro ev w8 hI δ φ
    obtain ⟨R76, a76⟩ := (δ 4 76 (by kernel_rfl) rfl).2.1 rfl
    clear δ φ
    try dsimp only
    simp [OpRuns, execOp, evalOf, a76, go_sem]
    exact ⟨hI, trivial, ν rfl, ν rfl, ν rfl⟩
   case o6 =>
    intro ev w8 hI δ φ
    obtain ⟨R76, a76⟩ := (δ 4 76 (by kernel_rfl) rfl).2.1 rfl
    clear δ φ
    try dsimp only
    simp [OpRuns, execOp, evalOf, a76, go_sem]
    exact ⟨hI, rfl, ν rfl, ν rfl, ν rfl⟩
   case o7 =>
    intro ev w8 hI δ φ
    have a81 : True := trivial
    clear δ φ
    try dsimp only
    simp [OpRuns, execOp, evalOf, a81, go_sem]
    exact ⟨hI, trivial, ν rfl, ν rfl, ν rfl⟩
   case o8 =>
   intro ev w8 hI δ φ
   have a82 : ev 82 = .int .i64 q := (δ 6 82 (by kernel_rfl) rfl).1
   clear δ φ
   try dsimp only
   simp [OpRuns, execOp, evalOf, a82, go_sem]
   exact ⟨hI, rfl, ν rfl, ν rfl, ν rfl⟩
  case hend =>
  intro a w6 hdf hsz hI hPhi κ
  replace hdf : a.defers = [] := hdf
  replace hsz : a.tmps.size = 84 := hsz
  have x11 : a.tmps.getD 11 undef = .int .i64 q := (hPhi 8 11 (by kernel_rfl)).1
  have ea := act_lit hsz hdf
  simp only [getDs] at ea
  rw [x11] at ea
  rw [ea]
  clear ea x11 hPhi κ hdf hsz
  generalize a.tmps.getD 0 undef = u0, a.tmps.getD 1 undef = u1, a.tmps.getD 2 undef = u2, a.tmps.getD 3 undef = u3, a.tmps.getD 4 undef = u4, a.tmps.getD 5 undef = u5, a.tmps.getD 6 undef = u6, a.tmps.getD 7 undef = u7, a.tmps.getD 8 undef = u8, a.tmps.getD 9 undef = u9, a.tmps.getD 10 undef = u10, a.tmps.getD 12 undef = u12, a.tmps.getD 13 undef = u13, a.tmps.getD 14 undef = u14, a.tmps.getD 15 undef = u15, a.tmps.getD 16 undef = u16, a.tmps.getD 17 undef = u17, a.tmps.getD 18 undef = u18, a.tmps.getD 19 undef = u19, a.tmps.getD 20 undef = u20, a.tmps.getD 21 undef = u21, a.tmps.getD 22 undef = u22, a.tmps.getD 23 undef = u23, a.tmps.getD 24 undef = u24, a.tmps.getD 25 undef = u25, a.tmps.getD 26 undef = u26, a.tmps.getD 27 undef = u27, a.tmps.getD 28 undef = u28, a.tmps.getD 29 undef = u29, a.tmps.getD 30 undef = u30, a.tmps.getD 31 undef = u31, a.tmps.getD 32 undef = u32, a.tmps.getD 33 undef = u33, a.tmps.getD 34 undef = u34, a.tmps.getD 35 undef = u35, a.tmps.getD 36 undef = u36, a.tmps.getD 37 undef = u37, a.tmps.getD 38 undef = u38, a.tmps.getD 39 undef = u39, a.tmps.getD 40 undef = u40, a.tmps.getD 41 undef = u41, a.tmps.getD 42 undef = u42, a.tmps.getD 43 undef = u43, a.tmps.getD 44 undef = u44, a.tmps.getD 45 undef = u45, a.tmps.getD 46 undef = u46, a.tmps.getD 47 undef = u47, a.tmps.getD 48 undef = u48, a.tmps.getD 49 undef = u49, a.tmps.getD 50 undef = u50, a.tmps.getD 51 undef = u51, a.tmps.getD 52 undef = u52, a.tmps.getD 53 undef = u53, a.tmps.getD 54 undef = u54, a.tmps.getD 55 undef = u55, a.tmps.getD 56 undef = u56, a.tmps.getD 57 undef = u57, a.tmps.getD 58 undef = u58, a.tmps.getD 59 undef = u59, a.tmps.getD 60 undef = u60, a.tmps.getD 61 undef = u61, a.tmps.getD 62 undef = u62, a.tmps.getD 63 undef = u63, a.tmps.getD 64 undef = u64, a.tmps.getD 65 undef = u65, a.tmps.getD 66 undef = u66, a.tmps.getD 67 undef = u67, a.tmps.getD 68 undef = u68, a.tmps.getD 69 undef = u69, a.tmps.getD 70 undef = u70, a.tmps.getD 71 undef = u71, a.tmps.getD 72 undef = u72, a.tmps.getD 73 undef = u73, a.tmps.getD 74 undef = u74, a.tmps.getD 75 undef = u75, a.tmps.getD 76 undef = u76, a.tmps.getD 77 undef = u77, a.tmps.getD 78 undef = u78, a.tmps.getD 79 undef = u79, a.tmps.getD 80 undef = u80, a.tmps.getD 81 undef = u81, a.tmps.getD 82 undef = u82, a.tmps.getD 83 undef = u83
  clear a
  have HI6 := ι (BW9.out w6 hI)
  clear e0 e1 e2 e3 e4 e5 e6 d0 d1 d2 d3 d4 d5 d6 hI HSZ HLN
  go_wp2_with fail
  go_ret
  exact ⟨by rw [H3.out]; rfl, HI6.out⟩
def cpI (a b : Int) : Int := if a < b then -1 else if b < a then 1 else 0
theorem nan_any (a : Int) (w : World) : Calls Tryz.prog 124 #[.int .i64 a] w fun e w' => e = .returned (.bool false) ∧ w = w' := by
 have t0 : (a != a) = false := by simp
 go_enter Tryz.func124, Tryz.ntmps124
 go_wp2_with fail
 go_ret
 exact ⟨rfl, rfl⟩
theorem cmp_any (a b : Int) (w : World) : Calls Tryz.prog 87 #[.int .i64 a, .int .i64 b] w fun e w' => e = .returned (.int .i64 (cpI a b)) ∧ w = w' := by
 unfold cpI
 by_cases h : a < b
 ·rw [if_pos h]
  have t0 : decide (a < b) = true := by simpa using h
  go_enter Tryz.func87, Tryz.ntmps87
  go_wp2_with (go_at_call 124; refine (nan_any _ _).mono ?_; rintro e w' ⟨rfl, rfl⟩)
  go_ret
  exact ⟨rfl, rfl⟩
 rw [if_neg h]
 have t0 : decide (a < b) = false := by simpa using h
 by_cases h2 : b < a
 ·rw [if_pos h2]
  have t1 : decide (b < a) = true := by simpa using h2
  clear h
  go_enter Tryz.func87, Tryz.ntmps87
  go_wp2_with (go_at_call 124; refine (nan_any _ _).mono ?_; rintro e w' ⟨rfl, rfl⟩)
  go_ret
  exact ⟨rfl, rfl⟩
 rw [if_neg h2]
 have t1 : decide (b < a) = false := by simpa using h2
 clear h h2
 go_enter Tryz.func87, Tryz.ntmps87
 go_wp2_with (go_at_call 124; refine (nan_any _ _).mono ?_; rintro e w' ⟨rfl, rfl⟩)
 go_ret
 exact ⟨rfl, rfl⟩
def orV : List Int → Int
 | [] => 0
 | x :: t => if x = 0 then orV t else x
theorem orV_drop {L : List Int} {k : Nat} {x : Int} (hk : L[k]? = some x) : orV (L.drop k) = if x = 0 then orV (L.drop (k + 1)) else x := by
 rw [List.drop_eq_getElem_cons (List.getElem?_eq_some_iff.1 hk).1, (List.getElem?_eq_some_iff.1 hk).2]
 rfl
theorem or_any (A : Option Addr) (c : Nat) (L : List Int) (w : World) (h : IntsAt w A L) (hl : L.length ≤ 1000) :
  Calls Tryz.prog 86 #[.slice A L.length c] w fun e w' => e = .returned (.int .i64 (orV L)) ∧ w = w' := by
 have H := ι h
 clear h
 go_enter Tryz.func86, Tryz.ntmps86
 go_wp2_with fail
 go_loop [8] (fun i => ∃ k : Nat, k ≤ L.length ∧ i = .int .i64 k ∧ Hid (orV (L.drop k) = orV L)) (fun i => L.length - (intOf i).toNat)
 case atStart => exact ⟨0, Nat.zero_le _, rfl, ι rfl⟩
 case round =>
 obtain ⟨k, hk, rfl, HF⟩ := hrel
 by_cases hlt : k < L.length
 ·have hlt2 : (k : Int) < (L.length : Int) := by omega
  obtain ⟨x, hx⟩ : ∃ x, L[k]? = some x := ⟨_, List.getElem?_eq_getElem hlt⟩
  have HD := ι (orV_drop hx)
  obtain ⟨b, o, rfl, q0⟩ := H.out k (.int .i64 x) (by rw [List.getElem?_map, hx]; rfl)
  clear hx
  by_cases h0 : x = 0
  ·subst h0
   have H3 := ι (show orV (L.drop (k + 1)) = orV L by rw [← HF.out, HD.out, if_pos rfl])
   clear HF HD
   go_wp2_with fail
   go_round
   case rel => exact ⟨k + 1, by omega, by go_num, H3⟩
   case measure => simp [intOf]; omega
  have t0 : (x != 0) = true := by simpa using h0
  have H3 := ι (show x = orV L by rw [← HF.out, HD.out, if_neg h0])
  clear HF HD h0
  go_wp2_with fail
  go_ret
  exact ⟨by rw [← H3.out]; rfl, rfl⟩
 obtain rfl : k = L.length := by omega
 have H3 := ι (show 0 = orV L by rw [← HF.out, List.drop_length]; rfl)
 clear hlt HF
 go_wp2_with fail
 go_ret
 exact ⟨by rw [← H3.out]; rfl, rfl⟩
theorem ints_new (w : World) (a b : Int) (t : TypeId) : IntsAt (w.alloc (.cells #[.int .i64 a, .int .i64 b] t (0, 0))) (some ⟨w.heap.size, 0, none⟩) [a, b] := fun k u hk => by
 refine ⟨w.heap.size, 0, rfl, ?_⟩
 rw [cell_of_block (heap_at w _ rfl)]
 match k, hk with
 | 0, hk => simpa using hk
 | 1, hk => simpa using hk
theorem cmp_bel (a b : Int) (w : World) : Calls Tryz.prog 87 #[.int .i64 a, .int .i64 b] w fun e w' => e = .returned (.int .i64 (cpI a b)) ∧ Below w.heap.size w w' :=
 (cmp_any a b w).mono (by rintro e w' ⟨h, rfl⟩; exact ⟨h, Below.refl _ _⟩)
theorem or_bel (A : Option Addr) (c : Nat) (a b : Int) (w : World) (h : IntsAt w A [a, b]) :
  Calls Tryz.prog 86 #[.slice A 2 c] w fun e w' => e = .returned (.int .i64 (orV [a, b])) ∧ Below w.heap.size w w' :=
 (or_any A c [a, b] w h (by simp)).mono (by rintro e w' ⟨h, rfl⟩; exact ⟨h, Below.refl _ _⟩)
def lsB (a b : Ev) : Bool := decide (orV [cpI a.i b.i, cpI a.id b.id] < 0)
theorem lsB_iff (a b : Ev) : lsB a b = true ↔ a.i < b.i ∨ a.i = b.i ∧ a.id < b.id := by
 unfold lsB cpI orV orV orV
 rw [decide_eq_true_eq]
 split <;> split <;> (try split) <;> omega
def PhiLsY (G : Nat) (x y : Ev) (c1 c2 q : Int) (lt : Bool) : Nat → Value → Prop
 | 5, v => v = .pointer (some ⟨G, 1, none⟩)
 | 6, v => v = .pointer (some ⟨G, 1, none⟩)
 | 7, v => v = .int .i64 x.i
 | 8, v => v = .pointer (some ⟨G + 1, 1, none⟩)
 | 9, v => v = .pointer (some ⟨G + 1, 1, none⟩)
 | 10, v => v = .int .i64 y.i
 | 11, v => v = .int .i64 c1
 | 12, v => v = .pointer (some ⟨G, 0, none⟩)
 | 13, v => v = .int .i64 x.id
 | 14, v => v = .pointer (some ⟨G + 1, 0, none⟩)
 | 15, v => v = .int .i64 y.id
 | 16, v => v = .int .i64 c2
 | 18, v => v = .int .i64 q
 | 19, v => v = .bool (lt)
 | 4, v => v = .bool lt
 | _, _ => True
def PhiLs (G : Nat) (x y : Ev) (c1 c2 q : Int) (lt : Bool) (sl : Nat) (v : Value) (w : World) : Prop := PhiLsY G x y c1 c2 q lt sl v ∧ (sl = 17 → RowI [c1, c2] v w)
theorem PhiLs.ext (G : Nat) (x y : Ev) (c1 c2 q : Int) (lt : Bool) {w w' : World} (hb : Below w.heap.size w w') : ∀ sl v, PhiLs G x y c1 c2 q lt sl v w → PhiLs G x y c1 c2 q lt sl v w' := fun sl v h => ⟨h.1, fun e => RowI.ext (h.2 e) hb⟩
theorem less_any (x y : Ev) (rx ry : Value) (w : World) :
  Calls Tryz.prog 46 #[x.v rx, y.v ry] w fun e w' => e = .returned (.bool (lsB x y)) ∧ Below w.heap.size w w' := by
 obtain ⟨G, hG⟩ : ∃ G, G = w.heap.size := ⟨_, rfl⟩
 have HU := ι (show lsB x y = decide (orV [cpI x.i y.i, cpI x.id y.id] < 0) from rfl)
 have HC1 := ι (cmp_bel x.i y.i)
 have HC2 := ι (cmp_bel x.id y.id)
 generalize cpI x.i y.i = c1 at *
 generalize cpI x.id y.id = c2 at *
 have HO := ι (fun A c W h => or_bel A c c1 c2 W h)
 obtain ⟨q, hq⟩ : ∃ q, q = orV [c1, c2] := ⟨_, rfl⟩
 rw [← hq] at HO HU
 obtain ⟨lt, hlt⟩ : ∃ b, b = decide (q < 0) := ⟨_, rfl⟩
 rw [← hlt] at HU
 have HLT := ι hlt.symm
 clear hq hlt
 rw [show x.v rx = .agg #[.int .i64 x.id, .int .i64 x.i, .int .i64 x.o, .string (sB x.reg), .int .u8 x.kind, .string (sB x.spk), rx] from rfl, show y.v ry = .agg #[.int .i64 y.id, .int .i64 y.i, .int .i64 y.o, .string (sB y.reg), .int .u8 y.kind, .string (sB y.spk), ry] from rfl]
 go_enter Tryz.func46, Tryz.ntmps46
 go_wp2_with fail
 rw [← hG]
 generalize hw5 : World.alloc _ _ = w5
 have FX := ι (show Held w5 G (x.cs rx) by subst hw5; exact (Held.new hG).alloc _)
 have FY := ι (show Held w5 (G + 1) (y.cs ry) by subst hw5; exact Held.new (by simp [hG]))
 have B5 := ι (show Below w.heap.size w w5 by subst hw5; exact (Below.more' _ _).trans ((Below.more' _ _).mono (by simp)))
 clear hw5 hG
 obtain ⟨N, hN⟩ : ∃ N, N = w5.heap.size := ⟨_, rfl⟩
 have hGN : G < N := by have := FX.out.lt; omega
 have hHN : G + 1 < N := by have := FY.out.lt; omega
 have HSZ := ι (show ∀ W, Below N w5 W → N ≤ W.heap.size from fun W hW => by have := hW.size; omega)
 have GN := ι (show w.heap.size ≤ N by have := B5.out.size; omega)
 clear hN
 have e0 : w5.cell? ⟨G, 0, none⟩ = some (.int .i64 x.id) := FX.out.cell 0
 have e1 : w5.cell? ⟨G, 1, none⟩ = some (.int .i64 x.i) := FX.out.cell 1
 have d0 : w5.cell? ⟨G + 1, 0, none⟩ = some (.int .i64 y.id) := FY.out.cell 0
 have d1 : w5.cell? ⟨G + 1, 1, none⟩ = some (.int .i64 y.i) := FY.out.cell 1
 have hlt2 := HLT.out
 refine wp_region_spec (by kernel_rfl) (fun w' => Below N w5 w') (PhiLs G x y c1 c2 q lt) 20 rfl (by kernel_rfl) (Below.refl _ _).drew ?hops ?hend
 case hops =>
  refine ⟨?o0, ?o1, ?o2, ?o3, ?o4, ?o5, ?o6, ?o7, ?o8, ?o9, ?o10, ?o11, ?o12, ?o13, ?o14, ?o15, trivial⟩
  case o0 =>
   intro ev w8 hI δ φ
   have a2 : ev 2 = .pointer (some ⟨G, 0, none⟩) := φ 2 (by kernel_rfl)
   clear δ φ
   try dsimp only
   simp [OpRuns, execOp, evalOf, a2, go_sem]
   exact ⟨hI, rfl, ν rfl⟩
  case o1 =>
   intro ev w8 hI δ φ
   have a5 : ev 5 = .pointer (some ⟨G, 1, none⟩) := (δ 0 5 (by kernel_rfl) rfl).1
   clear δ φ
   try dsimp only
   simp [OpRuns, execOp, evalOf, a5, go_sem]
   exact ⟨hI, rfl, ν rfl⟩
  case o2 =>
   intro ev w8 hI δ φ
   have a6 : ev 6 = .pointer (some ⟨G, 1, none⟩) := (δ 1 6 (by kernel_rfl) rfl).1
   have y0 : w8.cell? ⟨G, 1, none⟩ = some (.int .i64 x.i) := (hI.cell (p := ⟨G, 1, none⟩) hGN).trans e1
   clear δ φ
   try dsimp only
   simp [OpRuns, execOp, evalOf, a6, y0, go_sem]
   exact ⟨hI, rfl, ν rfl⟩
  case o3 =>
   intro ev w8 hI δ φ
   have a3 : ev 3 = .pointer (some ⟨G + 1, 0, none⟩) := φ 3 (by kernel_rfl)
   clear δ φ
   try dsimp only
   simp [OpRuns, execOp, evalOf, a3, go_sem]
   exact ⟨hI, rfl, ν rfl⟩
  case o4 =>
   intro ev w8 hI δ φ
   have a8 : ev 8 = .pointer (some ⟨G + 1, 1, none⟩) := (δ 3 8 (by kernel_rfl) rfl).1
   clear δ φ
   try dsimp only
   simp [OpRuns, execOp, evalOf, a8, go_sem]
   exact ⟨hI, rfl, ν rfl⟩
  case o5 =>
   intro ev w8 hI δ φ
   have a9 : ev 9 = .pointer (some ⟨G + 1, 1, none⟩) := (δ 4 9 (by kernel_rfl) rfl).1
   have y0 : w8.cell? ⟨G + 1, 1, none⟩ = some (.int .i64 y.i) := (hI.cell (p := ⟨G + 1, 1, none⟩) hHN).trans d1
   clear δ φ
   try dsimp only
   simp [OpRuns, execOp, evalOf, a9, y0, go_sem]
   exact ⟨hI, rfl, ν rfl⟩
  case o6 =>
   intro ev w8 hI δ φ
   have a7 : ev 7 = .int .i64 x.i := (δ 2 7 (by kernel_rfl) rfl).1
   have a10 : ev 10 = .int .i64 y.i := (δ 5 10 (by kernel_rfl) rfl).1
   clear δ φ
   try dsimp only
   refine runs_call (f := 87) (args := #[.int .i64 x.i, .int .i64 y.i]) (by simp [execOp, evalOf, resolve, invoke, a7, a10, go_sem]) ((HC1.out w8).mono ?_)
   rintro e w9 ⟨he, hb⟩
   exact ⟨_, he, hI.trans (hb.mono (HSZ.out w8 hI)), PhiLs.ext G x y c1 c2 q lt hb, fun d hd => by cases hd; exact ⟨rfl, ν rfl⟩⟩
  case o7 =>
   intro ev w8 hI δ φ
   have a2 : ev 2 = .pointer (some ⟨G, 0, none⟩) := φ 2 (by kernel_rfl)
   clear δ φ
   try dsimp only
   simp [OpRuns, execOp, evalOf, a2, go_sem]
   exact ⟨hI, rfl, ν rfl⟩
  case o8 =>
   intro ev w8 hI δ φ
   have a12 : ev 12 = .pointer (some ⟨G, 0, none⟩) := (δ 7 12 (by kernel_rfl) rfl).1
   have y0 : w8.cell? ⟨G, 0, none⟩ = some (.int .i64 x.id) := (hI.cell (p := ⟨G, 0, none⟩) hGN).trans e0
   clear δ φ
   try dsimp only
   simp [OpRuns, execOp, evalOf, a12, y0, go_sem]
   exact ⟨hI, rfl, ν rfl⟩
  case o9 =>
   intro ev w8 hI δ φ
   have a3 : ev 3 = .pointer (some ⟨G + 1, 0, none⟩) := φ 3 (by kernel_rfl)
   clear δ φ
   try dsimp only
   simp [OpRuns, execOp, evalOf, a3, go_sem]
   exact ⟨hI, rfl, ν rfl⟩
  case o10 =>
   intro ev w8 hI δ φ
   have a14 : ev 14 = .pointer (some ⟨G + 1, 0, none⟩) := (δ 9 14 (by kernel_rfl) rfl).1
   have y0 : w8.cell? ⟨G + 1, 0, none⟩ = some (.int .i64 y.id) := (hI.cell (p := ⟨G + 1, 0, none⟩) hHN).trans d0
   clear δ φ
   try dsimp only
   simp [OpRuns, execOp, evalOf, a14, y0, go_sem]
   exact ⟨hI, rfl, ν rfl⟩
  case o11 =>
   intro ev w8 hI δ φ
   have a13 : ev 13 = .int .i64 x.id := (δ 8 13 (by kernel_rfl) rfl).1
   have a15 : ev 15 = .int .i64 y.id := (δ 10 15 (by kernel_rfl) rfl).1
   clear δ φ
   try dsimp only
   refine runs_call (f := 87) (args := #[.int .i64 x.id, .int .i64 y.id]) (by simp [execOp, evalOf, resolve, invoke, a13, a15, go_sem]) ((HC2.out w8).mono ?_)
   rintro e w9 ⟨he, hb⟩
   exact ⟨_, he, hI.trans (hb.mono (HSZ.out w8 hI)), PhiLs.ext G x y c1 c2 q lt hb, fun d hd => by cases hd; exact ⟨rfl, ν rfl⟩⟩
  case o12 =>
   intro ev w8 hI δ φ
   have a11 : ev 11 = .int .i64 c1 := (δ 6 11 (by kernel_rfl) rfl).1
   have a16 : ev 16 = .int .i64 c2 := (δ 11 16 (by kernel_rfl) rfl).1
   clear δ φ
   try dsimp only
   simp [OpRuns, execOp, evalOf, a11, a16, go_sem]
   exact ⟨hI.alloc (HSZ.out w8 hI) _, PhiLs.ext G x y c1 c2 q lt (Below.more' _ _), trivial, fun e => ⟨_, _, rfl, ints_new _ _ _ _⟩⟩
  case o13 =>
   intro ev w8 hI δ φ
   obtain ⟨R17, r17, a17, hr17⟩ := (δ 12 17 (by kernel_rfl) rfl).2 rfl
   clear δ φ
   try dsimp only
   refine runs_call (f := 86) (args := #[.slice R17 2 r17]) (by simp [execOp, evalOf, resolve, invoke, a17, go_sem]) ((HO.out R17 r17 w8 hr17).mono ?_)
   rintro e w9 ⟨he, hb⟩
   exact ⟨_, he, hI.trans (hb.mono (HSZ.out w8 hI)), PhiLs.ext G x y c1 c2 q lt hb, fun d hd => by cases hd; exact ⟨rfl, ν rfl⟩⟩
  case o14 =>
   intro ev w8 hI δ φ
   have a18 : ev 18 = .int .i64 q := (δ 13 18 (by kernel_rfl) rfl).1
   clear δ φ
   try dsimp only
   simp [OpRuns, execOp, evalOf, a18, go_sem]
   exact ⟨hI, congrArg Value.bool hlt2, ν rfl⟩
  case o15 =>
  intro ev w8 hI δ φ
  have a19 : ev 19 = .bool (lt) := (δ 14 19 (by kernel_rfl) rfl).1
  clear δ φ
  try dsimp only
  simp [OpRuns, execOp, evalOf, a19, go_sem]
  exact ⟨hI, rfl, ν rfl⟩
 case hend =>
 intro a w6 hdf hsz hI hPhi κ
 replace hdf : a.defers = [] := hdf
 replace hsz : a.tmps.size = 20 := hsz
 have x4 : a.tmps.getD 4 undef = .bool lt := (hPhi 15 4 (by kernel_rfl)).1
 have ea := act_lit hsz hdf
 simp only [getDs] at ea
 rw [x4] at ea
 rw [ea]
 clear ea x4 hPhi κ hdf hsz
 generalize a.tmps.getD 0 undef = u0, a.tmps.getD 1 undef = u1, a.tmps.getD 2 undef = u2, a.tmps.getD 3 undef = u3, a.tmps.getD 5 undef = u5, a.tmps.getD 6 undef = u6, a.tmps.getD 7 undef = u7, a.tmps.getD 8 undef = u8, a.tmps.getD 9 undef = u9, a.tmps.getD 10 undef = u10, a.tmps.getD 11 undef = u11, a.tmps.getD 12 undef = u12, a.tmps.getD 13 undef = u13, a.tmps.getD 14 undef = u14, a.tmps.getD 15 undef = u15, a.tmps.getD 16 undef = u16, a.tmps.getD 17 undef = u17, a.tmps.getD 18 undef = u18, a.tmps.getD 19 undef = u19
 clear a
 have HI6 := ι (show Below w.heap.size w w6 from B5.out.trans (hI.mono GN.out))
 clear hlt2 e0 e1 d0 d1 hI HSZ
 go_wp2_with fail
 go_ret
 exact ⟨by rw [HU.out]; rfl, HI6.out⟩
end Go.Proofs.YtmopjhbfobmklaaGreatDoor
