/-
  The contracts of CheckList of regions and Len of events. Their conditions are their hypotheses.
-/
import Derived.Test.YtmopjhbfobmklaaGreatDoorMCp
set_option maxRecDepth 100000
set_option maxHeartbeats 40000000
namespace Go.Proofs.YtmopjhbfobmklaaGreatDoor
open Go.RowKit Go.Joins
set_option linter.unusedVariables false
set_option linter.unusedSimpArgs false
def rgN (p : Option Rg) (x : Rg) : Int := if rgE x ≠ 0 then rgE x else match p with
 | some y => if x.name = y.name then 7 else if Go.Op.bytesLess x.name y.name = true then 8 else 0
 | none => 0
def rlE : Option Rg → List Rg → Int
 | _, [] => 0
 | p, x :: t => if rgN p x = 0 then rlE (some x) t else rgN p x
def rgsE (l : List Rg) : Int := if 16 < l.length then 9 else rlE none l
theorem rlE_nil (p : Option Rg) : rlE p [] = 0 := by cases p <;> rfl
theorem rlE_drop {l : List Rg} {k : Nat} {x : Rg} (hk : l[k]? = some x) : rlE (prv l k) (l.drop k) = if rgN (prv l k) x = 0 then rlE (prv l (k + 1)) (l.drop (k + 1)) else rgN (prv l k) x := by
 rw [List.drop_eq_getElem_cons (List.getElem?_eq_some_iff.1 hk).1, (List.getElem?_eq_some_iff.1 hk).2, prv_succ hk]
 rfl
def PhiN9Y (X g2 o2 m k c : Nat) (l : List Rg) (x y : Rg) (pk en : Bool) : Nat → Value → Prop
 | 21, v => v = .int .i64 (k : Int)
 | 22, v => v = .bool (pk)
 | 23, v => v = .bool (pk)
 | 24, v => (pk = true → v = .pointer (some ⟨X, 0, none⟩)) ∧ (¬ (pk = true) → v = undef)
 | 25, v => (pk = true → v = .string (sB x.name)) ∧ (¬ (pk = true) → v = undef)
 | 26, v => (pk = true → v = .slice (some ⟨g2, o2, none⟩) l.length c) ∧ (¬ (pk = true) → v = undef)
 | 27, v => (pk = true → v = .int .i64 (k : Int)) ∧ (¬ (pk = true) → v = undef)
 | 28, v => (pk = true → v = .int .i64 (m : Int)) ∧ (¬ (pk = true) → v = undef)
 | 29, v => (pk = true → v = .pointer (some ⟨g2, o2 + m * 7, none⟩)) ∧ (¬ (pk = true) → v = undef)
 | 30, v => (pk = true → v = .pointer (some ⟨g2, o2 + m * 7, none⟩)) ∧ (¬ (pk = true) → v = undef)
 | 31, v => (pk = true → v = .string (sB y.name)) ∧ (¬ (pk = true) → v = undef)
 | 32, v => (pk = true → v = .bool (en)) ∧ (¬ (pk = true) → v = undef)
 | 33, v => v = .bool (pk && en)
 | _, _ => True
def PhiN9 (X g2 o2 m k c : Nat) (l : List Rg) (x y : Rg) (pk en : Bool) (sl : Nat) (v : Value) (w : World) : Prop := PhiN9Y X g2 o2 m k c l x y pk en sl v
def PhiN11Y (X g2 o2 m k c : Nat) (l : List Rg) (x y : Rg) (pk ln : Bool) : Nat → Value → Prop
 | 34, v => v = .int .i64 (k : Int)
 | 35, v => v = .bool (pk)
 | 36, v => v = .bool (pk)
 | 37, v => (pk = true → v = .pointer (some ⟨X, 0, none⟩)) ∧ (¬ (pk = true) → v = undef)
 | 38, v => (pk = true → v = .string (sB x.name)) ∧ (¬ (pk = true) → v = undef)
 | 39, v => (pk = true → v = .slice (some ⟨g2, o2, none⟩) l.length c) ∧ (¬ (pk = true) → v = undef)
 | 40, v => (pk = true → v = .int .i64 (k : Int)) ∧ (¬ (pk = true) → v = undef)
 | 41, v => (pk = true → v = .int .i64 (m : Int)) ∧ (¬ (pk = true) → v = undef)
 | 42, v => (pk = true → v = .pointer (some ⟨g2, o2 + m * 7, none⟩)) ∧ (¬ (pk = true) → v = undef)
 | 43, v => (pk = true → v = .pointer (some ⟨g2, o2 + m * 7, none⟩)) ∧ (¬ (pk = true) → v = undef)
 | 44, v => (pk = true → v = .string (sB y.name)) ∧ (¬ (pk = true) → v = undef)
 | 45, v => (pk = true → v = .bool (ln)) ∧ (¬ (pk = true) → v = undef)
 | 46, v => v = .bool (pk && ln)
 | _, _ => True
def PhiN11 (X g2 o2 m k c : Nat) (l : List Rg) (x y : Rg) (pk ln : Bool) (sl : Nat) (v : Value) (w : World) : Prop := PhiN11Y X g2 o2 m k c l x y pk ln sl v
theorem rlist_any (v : Value) (l : List Rg) (w : World) (h : RegsAt w v l) (hl : l.length ≤ 2000000) :
  Calls Tryz.prog 44 #[v] w fun e w' => e = .returned (.int .i64 (rgsE l)) ∧ Below w.heap.size w w' := by
 obtain ⟨A, c, rfl⟩ := h.form
 have H := ι h
 clear h
 by_cases h16 : 16 < l.length
 ·have HE := ι (show rgsE l = 9 by unfold rgsE; rw [if_pos h16])
  have h16i : (16 : Int) < (l.length : Int) := by omega
  clear h16
  go_enter Tryz.func44, Tryz.ntmps44
  go_wp2_with fail
  go_ret
  exact ⟨by rw [HE.out]; rfl, Below.refl _ _⟩
 have HE := ι (show rgsE l = rlE none l by unfold rgsE; rw [if_neg h16])
 rw [HE.out]
 have h16i : ¬ (16 : Int) < (l.length : Int) := by omega
 clear h16
 go_enter Tryz.func44, Tryz.ntmps44
 go_wp2_with fail
 go_loopw [11] (fun i wr => ∃ k : Nat, k ≤ l.length ∧ i = .int .i64 k ∧ Hid (rlE (prv l k) (l.drop k) = rlE none l) ∧ Hid (Below w.heap.size w wr)) (fun i _ => l.length - (intOf i).toNat)
 case atStart => exact ⟨0, Nat.zero_le _, rfl, ι rfl, ι (Below.refl _ _)⟩
 case round =>
 obtain ⟨k, hk, rfl, HF, BW⟩ := hrel
 by_cases hlt : k < l.length
 ·have hlt2 : (k : Int) < (l.length : Int) := by omega
  obtain ⟨x, hx⟩ : ∃ x, l[k]? = some x := ⟨_, List.getElem?_eq_getElem hlt⟩
  have HD := ι (rlE_drop hx)
  have HR := ι (H.out.ext (Flat.stays _) BW.out)
  obtain ⟨g, o, rfl, q0, q1, q2, q3, q4, q5, q6⟩ := RegsAt.get HR.out hx
  obtain ⟨m, y, hmk, hy⟩ : ∃ m y, (0 < k → m + 1 = k) ∧ l[m]? = some y := by
   by_cases h0 : 0 < k
   ·exact ⟨k - 1, _, fun _ => by omega, List.getElem?_eq_getElem (by omega)⟩
   exact ⟨k, x, fun h => absurd h h0, hx⟩
  have HY := ι (RegsAt.get HR.out hy)
  have HY0 := ι hy
  have hml : m < l.length := (List.getElem?_eq_some_iff.1 hy).1
  have hgr : g < wr.heap.size := World.block_lt_of_cell? wr _ q0
  obtain ⟨pk, hpk⟩ : ∃ b, b = decide (0 < k) := ⟨_, rfl⟩
  obtain ⟨en, hen⟩ : ∃ b, b = decide (x.name = y.name) := ⟨_, rfl⟩
  obtain ⟨ln, hln⟩ : ∃ b, b = Go.Op.bytesLess x.name y.name := ⟨_, rfl⟩
  have HCK := ι (rcheck_any x)
  obtain ⟨q, hq⟩ : ∃ q, q = rgE x := ⟨_, rfl⟩
  have HRN := ι (show rgN (prv l k) x = if q ≠ 0 then q else if (pk && en) = true then 7 else if (pk && ln) = true then 8 else 0 by
   unfold rgN
   rw [← hq]
   by_cases h0 : 0 < k
   ·have e : prv l k = some y := by
     unfold prv
     rw [if_neg (by omega), show k - 1 = m by have := hmk h0; omega]
     exact hy
    rw [e, hpk, show decide (0 < k) = true by simpa using h0, Bool.true_and, Bool.true_and, hen, hln]
    simp only [decide_eq_true_eq]
   have e : prv l k = none := by
    unfold prv
    rw [if_pos (by omega)]
   rw [e, hpk, show decide (0 < k) = false by simpa using h0, Bool.false_and, Bool.false_and]
   rfl)
  rw [← hq] at HCK
  have HP := ι (And.intro hpk (And.intro hmk hml))
  have HEN := ι (show ((sB x.name).toList == (sB y.name).toList) = en by rw [hen]; exact str_eq _ _)
  have HLN := ι (show Go.Op.bytesLess (sB x.name).toList (sB y.name).toList = ln by rw [hln, toL, toL])
  clear hx hy hpk hen hln hq hmk hml
  rw [show x.v = .agg #[.string (sB x.name), .int .i64 x.top, .int .i64 x.hei, .int .i64 x.lef, .int .i64 x.wid, .int .u8 x.ali, .bool x.bot] from rfl] at HCK
  go_wp2_with fail
  generalize hw2 : World.alloc _ _ = w2
  obtain ⟨X, hX⟩ : ∃ X, X = wr.heap.size := ⟨_, rfl⟩
  rw [← hX]
  have FX := ι (show Held w2 X x.cs by subst hw2; exact Held.new hX)
  have B2 := ι (show Below wr.heap.size wr w2 by subst hw2; exact Below.more' _ _)
  clear hw2 hX q0 q1 q2 q3 q4 q5 q6
  refine (HCK.out w2).mono ?_
  rintro e w3 ⟨rfl, hb⟩
  have B3 := ι (B2.out.trans (hb.mono B2.out.size))
  have F3 := ι (FX.out.ext hb)
  clear hb FX B2 HCK
  by_cases h0 : q = 0
  ·have HRN2 := ι (show rgN (prv l k) x = if (pk && en) = true then 7 else if (pk && ln) = true then 8 else 0 by rw [HRN.out, if_neg (by rw [h0]; simp)])
   subst h0
   clear HRN
   go_wp2_with fail
   obtain ⟨N, hN⟩ : ∃ N, N = w3.heap.size := ⟨_, rfl⟩
   obtain ⟨g2, o2, eg, _⟩ := HY.out
   obtain ⟨rfl, rfl⟩ : g2 = g ∧ o2 = o := by
    injection eg with e
    injection e with e1 e2
    exact ⟨e1.symm, e2.symm⟩
   clear eg
   have hXN : X < N := by have := F3.out.lt; omega
   have y0' : w3.cell? ⟨g2, o2 + m * 7, none⟩ = some (.string (sB y.name)) := by
    obtain ⟨g3, o3, eg, y0, _⟩ := RegsAt.get (HR.out.ext (Flat.stays _) B3.out) HY0.out
    injection eg with e
    injection e with e1 e2
    rw [e1, e2]
    exact y0
   have hgN : g2 < N := by have h : g2 < w3.heap.size := World.block_lt_of_cell? w3 _ y0'; omega
   have HSZ := ι (show ∀ W, Below N w3 W → N ≤ W.heap.size from fun W hW => by have := hW.size; omega)
   have GN := ι (show wr.heap.size ≤ N by have := B3.out.size; omega)
   clear hN
   have e0 : w3.cell? ⟨X, 0, none⟩ = some (.string (sB x.name)) := F3.out.cell 0
   have hpk1 : decide ((0 : Int) < (k : Int)) = pk := by rw [HP.out.1]; simp
   have hpk2 : decide (0 < k) = pk := HP.out.1.symm
   have m4 : (m : Int) < (l.length : Int) := by have := HP.out.2.2; omega
   have m4' : m < l.length := HP.out.2.2
   have hen := HEN.out
   have hln := HLN.out
   have m3 : pk = true → IntKind.i64.wrap ((k : Int) - 1) = (m : Int) := fun h => by
    have := HP.out.2.1 (of_decide_eq_true (HP.out.1.symm.trans h))
    rw [IntKind.wrap_i64]
    omega
   refine wp_region_spec (by kernel_rfl) (fun w' => Below N w3 w') (PhiN9 X g2 o2 m k c l x y pk en) 48 rfl (by kernel_rfl) (Below.refl _ _).drew ?hops ?hend
   case hops =>
    refine ⟨?o0, ?o1, ?o2, ?o3, ?o4, ?o5, ?o6, ?o7, ?o8, ?o9, ?o10, ?o11, ?o12, trivial⟩
    case o0 =>
     intro ev w8 hI δ φ
     have a3 : ev 3 = .int .i64 (k : Int) := φ 3 (by kernel_rfl)
     clear δ φ
     try dsimp only
     simp [OpRuns, execOp, evalOf, a3, go_sem]
     exact ⟨hI, rfl⟩
    case o1 =>
     intro ev w8 hI δ φ
     have a21 : ev 21 = .int .i64 (k : Int) := δ 0 21 (by kernel_rfl) rfl
     clear δ φ
     try dsimp only
     simp [OpRuns, execOp, evalOf, a21, go_sem]
     exact ⟨hI, congrArg Value.bool hpk2⟩
    case o2 =>
     intro ev w8 hI δ φ
     have a22 : ev 22 = .bool (pk) := δ 1 22 (by kernel_rfl) rfl
     clear δ φ
     try dsimp only
     simp [OpRuns, execOp, evalOf, a22, go_sem]
     exact ⟨hI, rfl⟩
    case o3 =>
     intro ev w8 hI δ φ
     have ag : ev 23 = .bool pk := δ 2 23 (by kernel_rfl) rfl
     refine γ ag rfl (fun hR => ?_) fun hn d hd => by cases hd; exact ⟨fun hr => absurd hr hn, fun _ => rfl⟩
     clear ag
     have a4 : ev 4 = .pointer (some ⟨X, 0, none⟩) := φ 4 (by kernel_rfl)
     clear δ φ
     try dsimp only
     simp [OpRuns, execOp, evalOf, a4, go_sem]
     exact ⟨hI, ⟨fun _ => rfl, fun h => absurd hR h⟩⟩
    case o4 =>
     intro ev w8 hI δ φ
     have ag : ev 23 = .bool pk := δ 2 23 (by kernel_rfl) rfl
     refine γ ag rfl (fun hR => ?_) fun hn d hd => by cases hd; exact ⟨fun hr => absurd hr hn, fun _ => rfl⟩
     clear ag
     have a24 : ev 24 = .pointer (some ⟨X, 0, none⟩) := (δ 3 24 (by kernel_rfl) rfl).1 hR
     have y0 : w8.cell? ⟨X, 0, none⟩ = some (.string (sB x.name)) := (hI.cell (p := ⟨X, 0, none⟩) hXN).trans e0
     clear δ φ
     try dsimp only
     simp [OpRuns, execOp, evalOf, a24, y0, go_sem]
     exact ⟨hI, ⟨fun _ => rfl, fun h => absurd hR h⟩⟩
    case o5 =>
     intro ev w8 hI δ φ
     have ag : ev 23 = .bool pk := δ 2 23 (by kernel_rfl) rfl
     refine γ ag rfl (fun hR => ?_) fun hn d hd => by cases hd; exact ⟨fun hr => absurd hr hn, fun _ => rfl⟩
     clear ag
     have a0 : ev 0 = .slice (some ⟨g2, o2, none⟩) l.length c := φ 0 (by kernel_rfl)
     clear δ φ
     try dsimp only
     simp [OpRuns, execOp, evalOf, a0, go_sem]
     exact ⟨hI, ⟨fun _ => rfl, fun h => absurd hR h⟩⟩
    case o6 =>
     intro ev w8 hI δ φ
     have ag : ev 23 = .bool pk := δ 2 23 (by kernel_rfl) rfl
     refine γ ag rfl (fun hR => ?_) fun hn d hd => by cases hd; exact ⟨fun hr => absurd hr hn, fun _ => rfl⟩
     clear ag
     have a3 : ev 3 = .int .i64 (k : Int) := φ 3 (by kernel_rfl)
     clear δ φ
     try dsimp only
     simp [OpRuns, execOp, evalOf, a3, go_sem]
     exact ⟨hI, ⟨fun _ => rfl, fun h => absurd hR h⟩⟩
    case o7 =>
     intro ev w8 hI δ φ
     have ag : ev 23 = .bool pk := δ 2 23 (by kernel_rfl) rfl
     refine γ ag rfl (fun hR => ?_) fun hn d hd => by cases hd; exact ⟨fun hr => absurd hr hn, fun _ => rfl⟩
     clear ag
     have m3' := m3 hR
     have a27 : ev 27 = .int .i64 (k : Int) := (δ 6 27 (by kernel_rfl) rfl).1 hR
     clear δ φ
     try dsimp only
     simp [OpRuns, execOp, evalOf, a27, m3', go_sem]
     exact ⟨hI, ⟨fun _ => rfl, fun h => absurd hR h⟩⟩
    case o8 =>
     intro ev w8 hI δ φ
     have ag : ev 23 = .bool pk := δ 2 23 (by kernel_rfl) rfl
     refine γ ag rfl (fun hR => ?_) fun hn d hd => by cases hd; exact ⟨fun hr => absurd hr hn, fun _ => rfl⟩
     clear ag
     have a26 : ev 26 = .slice (some ⟨g2, o2, none⟩) l.length c := (δ 5 26 (by kernel_rfl) rfl).1 hR
     have a28 : ev 28 = .int .i64 (m : Int) := (δ 7 28 (by kernel_rfl) rfl).1 hR
     clear δ φ
     try dsimp only
     simp [OpRuns, execOp, evalOf, a26, a28, m4, m4', go_sem]
     exact ⟨hI, ⟨fun _ => rfl, fun h => absurd hR h⟩⟩
    case o9 =>
     intro ev w8 hI δ φ
     have ag : ev 23 = .bool pk := δ 2 23 (by kernel_rfl) rfl
     refine γ ag rfl (fun hR => ?_) fun hn d hd => by cases hd; exact ⟨fun hr => absurd hr hn, fun _ => rfl⟩
     clear ag
     have a29 : ev 29 = .pointer (some ⟨g2, o2 + m * 7, none⟩) := (δ 8 29 (by kernel_rfl) rfl).1 hR
     clear δ φ
     try dsimp only
     simp [OpRuns, execOp, evalOf, a29, go_sem]
     exact ⟨hI, ⟨fun _ => rfl, fun h => absurd hR h⟩⟩
    case o10 =>
     intro ev w8 hI δ φ
     have ag : ev 23 = .bool pk := δ 2 23 (by kernel_rfl) rfl
     refine γ ag rfl (fun hR => ?_) fun hn d hd => by cases hd; exact ⟨fun hr => absurd hr hn, fun _ => rfl⟩
     clear ag
     have a30 : ev 30 = .pointer (some ⟨g2, o2 + m * 7, none⟩) := (δ 9 30 (by kernel_rfl) rfl).1 hR
     have y0 : w8.cell? ⟨g2, o2 + m * 7, none⟩ = some (.string (sB y.name)) := (hI.cell (p := ⟨g2, o2 + m * 7, none⟩) hgN).trans y0'
     clear δ φ
     try dsimp only
     simp [OpRuns, execOp, evalOf, a30, y0, go_sem]
     exact ⟨hI, ⟨fun _ => rfl, fun h => absurd hR h⟩⟩
    case o11 =>
     intro ev w8 hI δ φ
     have ag : ev 23 = .bool pk := δ 2 23 (by kernel_rfl) rfl
     refine γ ag rfl (fun hR => ?_) fun hn d hd => by cases hd; exact ⟨fun hr => absurd hr hn, fun _ => rfl⟩
     clear ag
     have a25 : ev 25 = .string (sB x.name) := (δ 4 25 (by kernel_rfl) rfl).1 hR
     have a31 : ev 31 = .string (sB y.name) := (δ 10 31 (by kernel_rfl) rfl).1 hR
     clear δ φ
     try dsimp only
     simp [OpRuns, execOp, evalOf, a25, a31, go_sem]
     exact ⟨hI, ⟨fun _ => congrArg Value.bool hen, fun h => absurd hR h⟩⟩
    case o12 =>
    intro ev w8 hI δ φ
    have a23 : ev 23 = .bool (pk) := δ 2 23 (by kernel_rfl) rfl
    have ax : pk = true → ev 32 = .bool (en) := fun hc => (δ 11 32 (by kernel_rfl) rfl).1 hc
    clear δ φ
    obtain ⟨cc, hcc⟩ : ∃ cc, cc = pk := ⟨_, rfl⟩
    rw [← hcc] at a23
    cases cc with
    | true =>
     have ax := ax hcc.symm
     have hv : (Value.bool (en)) = (Value.bool (pk && en)) := by rw [← hcc]; simp
     clear hcc
     try dsimp only
     simp [OpRuns, execOp, evalOf, a23, ax, go_sem]
     exact ⟨hI, hv⟩
    | false =>
     clear ax
     have hv : Value.bool false = (Value.bool (pk && en)) := by rw [← hcc]; simp
     clear hcc
     try dsimp only
     simp [OpRuns, execOp, evalOf, a23, go_sem]
     exact ⟨hI, hv⟩
   case hend =>
   intro a w6 hdf hsz hI hPhi κ
   replace hdf : a.defers = [] := hdf
   replace hsz : a.tmps.size = 48 := hsz
   have x33 : a.tmps.getD 33 undef = .bool (pk && en) := hPhi 12 33 (by kernel_rfl)
   have x0 : a.tmps.getD 0 undef = Value.slice (some { block := g2, off := o2 }) l.length c := κa κ 0 rfl
   have x1 : a.tmps.getD 1 undef = undef := κa κ 1 rfl
   have x2 : a.tmps.getD 2 undef = u2 := κa κ 2 rfl
   have x3 : a.tmps.getD 3 undef = Value.int IntKind.i64 (↑k : Int) := κa κ 3 rfl
   have x4 : a.tmps.getD 4 undef = Value.pointer (some { block := X, off := 0 }) := κa κ 4 rfl
   have x5 : a.tmps.getD 5 undef = Value.int IntKind.i64 0 := κa κ 5 rfl
   have x6 : a.tmps.getD 6 undef = Value.slice (some { block := g2, off := o2 }) l.length c := κa κ 6 rfl
   have x7 : a.tmps.getD 7 undef = Value.int IntKind.i64 (↑l.length : Int) := κa κ 7 rfl
   have x8 : a.tmps.getD 8 undef = Value.bool false := κa κ 8 rfl
   have x9 : a.tmps.getD 9 undef = Value.slice (some { block := g2, off := o2 }) l.length c := κa κ 9 rfl
   have x10 : a.tmps.getD 10 undef = Value.int IntKind.i64 (↑l.length : Int) := κa κ 10 rfl
   have x11 : a.tmps.getD 11 undef = Value.int IntKind.i64 (↑k : Int) := κa κ 11 rfl
   have x12 : a.tmps.getD 12 undef = Value.bool true := κa κ 12 rfl
   have x13 : a.tmps.getD 13 undef = Value.int IntKind.i64 (↑k : Int) := κa κ 13 rfl
   have x14 : a.tmps.getD 14 undef = Value.pointer (some { block := g2, off := o2 + k * 7 }) := κa κ 14 rfl
   have x15 : a.tmps.getD 15 undef = Value.agg #[Value.string (sB x.name), Value.int IntKind.i64 x.top, Value.int IntKind.i64 x.hei, Value.int IntKind.i64 x.lef, Value.int IntKind.i64 x.wid, Value.int IntKind.u8 x.ali, Value.bool x.bot] := κa κ 15 rfl
   have x16 : a.tmps.getD 16 undef = Value.agg #[Value.string (sB x.name), Value.int IntKind.i64 x.top, Value.int IntKind.i64 x.hei, Value.int IntKind.i64 x.lef, Value.int IntKind.i64 x.wid, Value.int IntKind.u8 x.ali, Value.bool x.bot] := κa κ 16 rfl
   have x17 : a.tmps.getD 17 undef = Value.int IntKind.i64 0 := κa κ 17 rfl
   have x18 : a.tmps.getD 18 undef = Value.int IntKind.i64 0 := κa κ 18 rfl
   have x19 : a.tmps.getD 19 undef = Value.bool false := κa κ 19 rfl
   have x20 : a.tmps.getD 20 undef = u20 := κa κ 20 rfl
   have x34 : a.tmps.getD 34 undef = u34 := κa κ 34 rfl
   have x35 : a.tmps.getD 35 undef = u35 := κa κ 35 rfl
   have x36 : a.tmps.getD 36 undef = u36 := κa κ 36 rfl
   have x37 : a.tmps.getD 37 undef = u37 := κa κ 37 rfl
   have x38 : a.tmps.getD 38 undef = u38 := κa κ 38 rfl
   have x39 : a.tmps.getD 39 undef = u39 := κa κ 39 rfl
   have x40 : a.tmps.getD 40 undef = u40 := κa κ 40 rfl
   have x41 : a.tmps.getD 41 undef = u41 := κa κ 41 rfl
   have x42 : a.tmps.getD 42 undef = u42 := κa κ 42 rfl
   have x43 : a.tmps.getD 43 undef = u43 := κa κ 43 rfl
   have x44 : a.tmps.getD 44 undef = u44 := κa κ 44 rfl
   have x45 : a.tmps.getD 45 undef = u45 := κa κ 45 rfl
   have x46 : a.tmps.getD 46 undef = u46 := κa κ 46 rfl
   have x47 : a.tmps.getD 47 undef = u47 := κa κ 47 rfl
   have ea := act_lit hsz hdf
   simp only [getDs] at ea
   rw [x33, x0, x1, x2, x3, x4, x5, x6, x7, x8, x9, x10, x11, x12, x13, x14, x15, x16, x17, x18, x19, x20, x34, x35, x36, x37, x38, x39, x40, x41, x42, x43, x44, x45, x46, x47] at ea
   rw [ea]
   clear ea x33 x0 x1 x2 x3 x4 x5 x6 x7 x8 x9 x10 x11 x12 x13 x14 x15 x16 x17 x18 x19 x20 x34 x35 x36 x37 x38 x39 x40 x41 x42 x43 x44 x45 x46 x47 hPhi κ hdf hsz
   generalize a.tmps.getD 21 undef = u21, a.tmps.getD 22 undef = u22, a.tmps.getD 23 undef = u23, a.tmps.getD 24 undef = u24, a.tmps.getD 25 undef = u25, a.tmps.getD 26 undef = u26, a.tmps.getD 27 undef = u27, a.tmps.getD 28 undef = u28, a.tmps.getD 29 undef = u29, a.tmps.getD 30 undef = u30, a.tmps.getD 31 undef = u31, a.tmps.getD 32 undef = u32
   clear a
   clear hpk1 hpk2 m4 m4' m3 e0 y0' hen hln
   have B6 := ι (show Below wr.heap.size wr w6 from B3.out.trans (hI.mono GN.out))
   have F6 := ι (F3.out.below hI hXN)
   clear hI HSZ hXN hgN GN B3 F3
   cases hr : (pk && en) with
   | true =>
    have H3 := ι (show 7 = rlE none l by
     have e : rgN (prv l k) x = 7 := by rw [HRN2.out, if_pos hr]
     rw [← HF.out, HD.out, e, if_neg (by decide)])
    clear hr HF HD HRN2
    go_wp2_with fail
    go_ret
    exact ⟨by rw [← H3.out]; rfl, BW.out.trans (B6.out.mono BW.out.size)⟩
   | false =>
    have HRN3 := ι (show rgN (prv l k) x = if (pk && ln) = true then 8 else 0 by rw [HRN2.out, if_neg (by rw [hr]; decide)])
    clear hr HRN2
    have B3 := B6
    have F3 := F6
    clear B6 F6
    go_wp2_with fail
    obtain ⟨N, hN⟩ : ∃ N, N = w6.heap.size := ⟨_, rfl⟩
    have hXN : X < N := by have := F3.out.lt; omega
    have y0' : w6.cell? ⟨g2, o2 + m * 7, none⟩ = some (.string (sB y.name)) := by
     obtain ⟨g3, o3, eg, y0, _⟩ := RegsAt.get (HR.out.ext (Flat.stays _) B3.out) HY0.out
     injection eg with e
     injection e with e1 e2
     rw [e1, e2]
     exact y0
    have hgN : g2 < N := by have h : g2 < w6.heap.size := World.block_lt_of_cell? w6 _ y0'; omega
    have HSZ := ι (show ∀ W, Below N w6 W → N ≤ W.heap.size from fun W hW => by have := hW.size; omega)
    have GN := ι (show wr.heap.size ≤ N by have := B3.out.size; omega)
    clear hN
    have e0 : w6.cell? ⟨X, 0, none⟩ = some (.string (sB x.name)) := F3.out.cell 0
    have hpk1 : decide ((0 : Int) < (k : Int)) = pk := by rw [HP.out.1]; simp
    have hpk2 : decide (0 < k) = pk := HP.out.1.symm
    have m4 : (m : Int) < (l.length : Int) := by have := HP.out.2.2; omega
    have m4' : m < l.length := HP.out.2.2
    have hen := HEN.out
    have hln := HLN.out
    have m3 : pk = true → IntKind.i64.wrap ((k : Int) - 1) = (m : Int) := fun h => by
     have := HP.out.2.1 (of_decide_eq_true (HP.out.1.symm.trans h))
     rw [IntKind.wrap_i64]
     omega
    refine wp_region_spec (by kernel_rfl) (fun w' => Below N w6 w') (PhiN11 X g2 o2 m k c l x y pk ln) 48 rfl (by kernel_rfl) (Below.refl _ _).drew ?hops ?hend
    case hops =>
     refine ⟨?o0, ?o1, ?o2, ?o3, ?o4, ?o5, ?o6, ?o7, ?o8, ?o9, ?o10, ?o11, ?o12, trivial⟩
     case o0 =>
      intro ev w8 hI δ φ
      have a3 : ev 3 = .int .i64 (k : Int) := φ 3 (by kernel_rfl)
      clear δ φ
      try dsimp only
      simp [OpRuns, execOp, evalOf, a3, go_sem]
      exact ⟨hI, rfl⟩
     case o1 =>
      intro ev w8 hI δ φ
      have a34 : ev 34 = .int .i64 (k : Int) := δ 0 34 (by kernel_rfl) rfl
      clear δ φ
      try dsimp only
      simp [OpRuns, execOp, evalOf, a34, go_sem]
      exact ⟨hI, congrArg Value.bool hpk2⟩
     case o2 =>
      intro ev w8 hI δ φ
      have a35 : ev 35 = .bool (pk) := δ 1 35 (by kernel_rfl) rfl
      clear δ φ
      try dsimp only
      simp [OpRuns, execOp, evalOf, a35, go_sem]
      exact ⟨hI, rfl⟩
     case o3 =>
      intro ev w8 hI δ φ
      have ag : ev 36 = .bool pk := δ 2 36 (by kernel_rfl) rfl
      refine γ ag rfl (fun hR => ?_) fun hn d hd => by cases hd; exact ⟨fun hr => absurd hr hn, fun _ => rfl⟩
      clear ag
      have a4 : ev 4 = .pointer (some ⟨X, 0, none⟩) := φ 4 (by kernel_rfl)
      clear δ φ
      try dsimp only
      simp [OpRuns, execOp, evalOf, a4, go_sem]
      exact ⟨hI, ⟨fun _ => rfl, fun h => absurd hR h⟩⟩
     case o4 =>
      intro ev w8 hI δ φ
      have ag : ev 36 = .bool pk := δ 2 36 (by kernel_rfl) rfl
      refine γ ag rfl (fun hR => ?_) fun hn d hd => by cases hd; exact ⟨fun hr => absurd hr hn, fun _ => rfl⟩
      clear ag
      have a37 : ev 37 = .pointer (some ⟨X, 0, none⟩) := (δ 3 37 (by kernel_rfl) rfl).1 hR
      have y0 : w8.cell? ⟨X, 0, none⟩ = some (.string (sB x.name)) := (hI.cell (p := ⟨X, 0, none⟩) hXN).trans e0
      clear δ φ
      try dsimp only
      simp [OpRuns, execOp, evalOf, a37, y0, go_sem]
      exact ⟨hI, ⟨fun _ => rfl, fun h => absurd hR h⟩⟩
     case o5 =>
      intro ev w8 hI δ φ
      have ag : ev 36 = .bool pk := δ 2 36 (by kernel_rfl) rfl
      refine γ ag rfl (fun hR => ?_) fun hn d hd => by cases hd; exact ⟨fun hr => absurd hr hn, fun _ => rfl⟩
      clear ag
      have a0 : ev 0 = .slice (some ⟨g2, o2, none⟩) l.length c := φ 0 (by kernel_rfl)
      clear δ φ
      try dsimp only
      simp [OpRuns, execOp, evalOf, a0, go_sem]
      exact ⟨hI, ⟨fun _ => rfl, fun h => absurd hR h⟩⟩
     case o6 =>
      intro ev w8 hI δ φ
      have ag : ev 36 = .bool pk := δ 2 36 (by kernel_rfl) rfl
      refine γ ag rfl (fun hR => ?_) fun hn d hd => by cases hd; exact ⟨fun hr => absurd hr hn, fun _ => rfl⟩
      clear ag
      have a3 : ev 3 = .int .i64 (k : Int) := φ 3 (by kernel_rfl)
      clear δ φ
      try dsimp only
      simp [OpRuns, execOp, evalOf, a3, go_sem]
      exact ⟨hI, ⟨fun _ => rfl, fun h => absurd hR h⟩⟩
     case o7 =>
      intro ev w8 hI δ φ
      have ag : ev 36 = .bool pk := δ 2 36 (by kernel_rfl) rfl
      refine γ ag rfl (fun hR => ?_) fun hn d hd => by cases hd; exact ⟨fun hr => absurd hr hn, fun _ => rfl⟩
      clear ag
      have m3' := m3 hR
      have a40 : ev 40 = .int .i64 (k : Int) := (δ 6 40 (by kernel_rfl) rfl).1 hR
      clear δ φ
      try dsimp only
      simp [OpRuns, execOp, evalOf, a40, m3', go_sem]
      exact ⟨hI, ⟨fun _ => rfl, fun h => absurd hR h⟩⟩
     case o8 =>
      intro ev w8 hI δ φ
      have ag : ev 36 = .bool pk := δ 2 36 (by kernel_rfl) rfl
      refine γ ag rfl (fun hR => ?_) fun hn d hd => by cases hd; exact ⟨fun hr => absurd hr hn, fun _ => rfl⟩
      clear ag
      have a39 : ev 39 = .slice (some ⟨g2, o2, none⟩) l.length c := (δ 5 39 (by kernel_rfl) rfl).1 hR
      have a41 : ev 41 = .int .i64 (m : Int) := (δ 7 41 (by kernel_rfl) rfl).1 hR
      clear δ φ
      try dsimp only
      simp [OpRuns, execOp, evalOf, a39, a41, m4, m4', go_sem]
      exact ⟨hI, ⟨fun _ => rfl, fun h => absurd hR h⟩⟩
     case o9 =>
      intro ev w8 hI δ φ
      have ag : ev 36 = .bool pk := δ 2 36 (by kernel_rfl) rfl
      refine γ ag rfl (fun hR => ?_) fun hn d hd => by cases hd; exact ⟨fun hr => absurd hr hn, fun _ => rfl⟩
      clear ag
      have a42 : ev 42 = .pointer (some ⟨g2, o2 + m * 7, none⟩) := (δ 8 42 (by kernel_rfl) rfl).1 hR
      clear δ φ
      try dsimp only
      simp [OpRuns, execOp, evalOf, a42, go_sem]
      exact ⟨hI, ⟨fun _ => rfl, fun h => absurd hR h⟩⟩
     case o10 =>
      intro ev w8 hI δ φ
      have ag : ev 36 = .bool pk := δ 2 36 (by kernel_rfl) rfl
      refine γ ag rfl (fun hR => ?_) fun hn d hd => by cases hd; exact ⟨fun hr => absurd hr hn, fun _ => rfl⟩
      clear ag
      have a43 : ev 43 = .pointer (some ⟨g2, o2 + m * 7, none⟩) := (δ 9 43 (by kernel_rfl) rfl).1 hR
      have y0 : w8.cell? ⟨g2, o2 + m * 7, none⟩ = some (.string (sB y.name)) := (hI.cell (p := ⟨g2, o2 + m * 7, none⟩) hgN).trans y0'
      clear δ φ
      try dsimp only
      simp [OpRuns, execOp, evalOf, a43, y0, go_sem]
      exact ⟨hI, ⟨fun _ => rfl, fun h => absurd hR h⟩⟩
     case o11 =>
      intro ev w8 hI δ φ
      have ag : ev 36 = .bool pk := δ 2 36 (by kernel_rfl) rfl
      refine γ ag rfl (fun hR => ?_) fun hn d hd => by cases hd; exact ⟨fun hr => absurd hr hn, fun _ => rfl⟩
      clear ag
      have a38 : ev 38 = .string (sB x.name) := (δ 4 38 (by kernel_rfl) rfl).1 hR
      have a44 : ev 44 = .string (sB y.name) := (δ 10 44 (by kernel_rfl) rfl).1 hR
      clear δ φ
      try dsimp only
      simp [OpRuns, execOp, evalOf, a38, a44, go_sem]
      exact ⟨hI, ⟨fun _ => congrArg Value.bool hln, fun h => absurd hR h⟩⟩
     case o12 =>
     intro ev w8 hI δ φ
     have a36 : ev 36 = .bool (pk) := δ 2 36 (by kernel_rfl) rfl
     have ax : pk = true → ev 45 = .bool (ln) := fun hc => (δ 11 45 (by kernel_rfl) rfl).1 hc
     clear δ φ
     obtain ⟨cc, hcc⟩ : ∃ cc, cc = pk := ⟨_, rfl⟩
     rw [← hcc] at a36
     cases cc with
     | true =>
      have ax := ax hcc.symm
      have hv : (Value.bool (ln)) = (Value.bool (pk && ln)) := by rw [← hcc]; simp
      clear hcc
      try dsimp only
      simp [OpRuns, execOp, evalOf, a36, ax, go_sem]
      exact ⟨hI, hv⟩
     | false =>
      clear ax
      have hv : Value.bool false = (Value.bool (pk && ln)) := by rw [← hcc]; simp
      clear hcc
      try dsimp only
      simp [OpRuns, execOp, evalOf, a36, go_sem]
      exact ⟨hI, hv⟩
    case hend =>
    intro a w7 hdf hsz hI hPhi κ
    replace hdf : a.defers = [] := hdf
    replace hsz : a.tmps.size = 48 := hsz
    have x46 : a.tmps.getD 46 undef = .bool (pk && ln) := hPhi 12 46 (by kernel_rfl)
    have x0 : a.tmps.getD 0 undef = Value.slice (some { block := g2, off := o2 }) l.length c := κa κ 0 rfl
    have x1 : a.tmps.getD 1 undef = undef := κa κ 1 rfl
    have x2 : a.tmps.getD 2 undef = u2 := κa κ 2 rfl
    have x3 : a.tmps.getD 3 undef = Value.int IntKind.i64 (↑k : Int) := κa κ 3 rfl
    have x4 : a.tmps.getD 4 undef = Value.pointer (some { block := X, off := 0 }) := κa κ 4 rfl
    have x5 : a.tmps.getD 5 undef = Value.int IntKind.i64 0 := κa κ 5 rfl
    have x6 : a.tmps.getD 6 undef = Value.slice (some { block := g2, off := o2 }) l.length c := κa κ 6 rfl
    have x7 : a.tmps.getD 7 undef = Value.int IntKind.i64 (↑l.length : Int) := κa κ 7 rfl
    have x8 : a.tmps.getD 8 undef = Value.bool false := κa κ 8 rfl
    have x9 : a.tmps.getD 9 undef = Value.slice (some { block := g2, off := o2 }) l.length c := κa κ 9 rfl
    have x10 : a.tmps.getD 10 undef = Value.int IntKind.i64 (↑l.length : Int) := κa κ 10 rfl
    have x11 : a.tmps.getD 11 undef = Value.int IntKind.i64 (↑k : Int) := κa κ 11 rfl
    have x12 : a.tmps.getD 12 undef = Value.bool true := κa κ 12 rfl
    have x13 : a.tmps.getD 13 undef = Value.int IntKind.i64 (↑k : Int) := κa κ 13 rfl
    have x14 : a.tmps.getD 14 undef = Value.pointer (some { block := g2, off := o2 + k * 7 }) := κa κ 14 rfl
    have x15 : a.tmps.getD 15 undef = Value.agg #[Value.string (sB x.name), Value.int IntKind.i64 x.top, Value.int IntKind.i64 x.hei, Value.int IntKind.i64 x.lef, Value.int IntKind.i64 x.wid, Value.int IntKind.u8 x.ali, Value.bool x.bot] := κa κ 15 rfl
    have x16 : a.tmps.getD 16 undef = Value.agg #[Value.string (sB x.name), Value.int IntKind.i64 x.top, Value.int IntKind.i64 x.hei, Value.int IntKind.i64 x.lef, Value.int IntKind.i64 x.wid, Value.int IntKind.u8 x.ali, Value.bool x.bot] := κa κ 16 rfl
    have x17 : a.tmps.getD 17 undef = Value.int IntKind.i64 0 := κa κ 17 rfl
    have x18 : a.tmps.getD 18 undef = Value.int IntKind.i64 0 := κa κ 18 rfl
    have x19 : a.tmps.getD 19 undef = Value.bool false := κa κ 19 rfl
    have x20 : a.tmps.getD 20 undef = u20 := κa κ 20 rfl
    have x47 : a.tmps.getD 47 undef = u47 := κa κ 47 rfl
    have ea := act_lit hsz hdf
    simp only [getDs] at ea
    rw [x46, x0, x1, x2, x3, x4, x5, x6, x7, x8, x9, x10, x11, x12, x13, x14, x15, x16, x17, x18, x19, x20, x47] at ea
    rw [ea]
    clear ea x46 x0 x1 x2 x3 x4 x5 x6 x7 x8 x9 x10 x11 x12 x13 x14 x15 x16 x17 x18 x19 x20 x47 hPhi κ hdf hsz
    generalize a.tmps.getD 21 undef = u21, a.tmps.getD 22 undef = u22, a.tmps.getD 23 undef = u23, a.tmps.getD 24 undef = u24, a.tmps.getD 25 undef = u25, a.tmps.getD 26 undef = u26, a.tmps.getD 27 undef = u27, a.tmps.getD 28 undef = u28, a.tmps.getD 29 undef = u29, a.tmps.getD 30 undef = u30, a.tmps.getD 31 undef = u31, a.tmps.getD 32 undef = u32, a.tmps.getD 33 undef = u33, a.tmps.getD 34 undef = u34, a.tmps.getD 35 undef = u35, a.tmps.getD 36 undef = u36, a.tmps.getD 37 undef = u37, a.tmps.getD 38 undef = u38, a.tmps.getD 39 undef = u39, a.tmps.getD 40 undef = u40, a.tmps.getD 41 undef = u41, a.tmps.getD 42 undef = u42, a.tmps.getD 43 undef = u43, a.tmps.getD 44 undef = u44, a.tmps.getD 45 undef = u45
    clear a
    clear hpk1 hpk2 m4 m4' m3 e0 y0' hen hln
    have B7 := ι (show Below wr.heap.size wr w7 from B3.out.trans (hI.mono GN.out))
    clear hI HSZ
    cases hr : (pk && ln) with
    | true =>
     have H3 := ι (show 8 = rlE none l by
      have e : rgN (prv l k) x = 8 := by rw [HRN3.out, if_pos hr]
      rw [← HF.out, HD.out, e, if_neg (by decide)])
     clear hr HF HD HRN3
     go_wp2_with fail
     go_ret
     exact ⟨by rw [← H3.out]; rfl, BW.out.trans (B7.out.mono BW.out.size)⟩
    | false =>
     have H3 := ι (show rlE (prv l (k + 1)) (l.drop (k + 1)) = rlE none l by
      have e : rgN (prv l k) x = 0 := by rw [HRN3.out, if_neg (by rw [hr]; decide)]
      rw [← HF.out, HD.out, if_pos e])
     clear hr HF HD HRN3
     go_wp2_with fail
     go_roundw
     case rel => exact ⟨k + 1, by omega, by go_num, H3, ι (BW.out.trans (B7.out.mono BW.out.size))⟩
     case measure => simp [intOf]; omega
  have t0 : (q != 0) = true := by simpa using h0
  have H3 := ι (show q = rlE none l by
   have e : rgN (prv l k) x = q := by rw [HRN.out, if_pos h0]
   rw [← HF.out, HD.out, e, if_neg h0])
  clear h0 HF HD HRN
  go_wp2_with fail
  go_ret
  exact ⟨by rw [← H3.out]; rfl, BW.out.trans (B3.out.mono BW.out.size)⟩
 obtain rfl : k = l.length := by omega
 have H3 := ι (show 0 = rlE none l by rw [← HF.out, List.drop_length, rlE_nil])
 clear hlt HF
 go_wp2_with fail
 go_ret
 exact ⟨by rw [← H3.out]; rfl, BW.out⟩
def sumL : List Int → Int → Int
 | [], n => n
 | x :: t, n => if x < 0 then -1 else sumL t (n + x)
theorem sumL_drop {L : List Int} {k : Nat} {x : Int} (hk : L[k]? = some x) (n : Int) : sumL (L.drop k) n = if x < 0 then -1 else sumL (L.drop (k + 1)) (n + x) := by
 rw [List.drop_eq_getElem_cons (List.getElem?_eq_some_iff.1 hk).1, (List.getElem?_eq_some_iff.1 hk).2]
 rfl
def elenV (rows : List (List Rn)) : Int := sumL (lensV rows) ((rows.length - 1 : Nat) : Int)
theorem elen_any (x : Ev) (rv : Value) (w : World) (h : RowsAt w rv x.rows) (hl : SmlR x.rows) (hw : Wt w) (hn : x.rows.length ≤ 4) (h16 : ∀ r ∈ x.rows, r.length ≤ 16) :
  Calls Tryz.prog 125 #[x.v rv] w fun e w' => e = .returned (.int .i64 (elenV x.rows)) ∧ Below w.heap.size w w' := by
 have H := ι h
 have HL := ι hl
 have HW := ι hw
 obtain ⟨A, c, rfl⟩ := h.form
 have hrng : ∀ n ∈ lensV x.rows, n ≤ 32000000 := fun n hn => by
  unfold lensV at hn
  obtain ⟨r, hr, rfl⟩ := List.mem_map.1 hn
  have := rowLen_range (l := r) (n := 0) (fun y hy => ((hl.2 r hr).2 y hy).1) (Int.le_refl 0)
  have := h16 r hr
  omega
 have HRNG := ι hrng
 clear h hl hw hrng h16
 obtain ⟨G, hG⟩ : ∃ G, G = w.heap.size := ⟨_, rfl⟩
 obtain ⟨s0, hs0⟩ : ∃ s : Nat, s = x.rows.length - 1 := ⟨_, rfl⟩
 have HS0 := ι hs0
 have HLN := ι (fun W (hb : Below w.heap.size w W) => lens_any x (.slice A x.rows.length c) W (H.out.ext RowC.stays hb) HL.out (HW.out.on hb))
 have hm : IntKind.i64.wrap ((x.rows.length : Int) - 1) = (x.rows.length : Int) - 1 := by rw [IntKind.wrap_i64]; omega
 have hm2 : max ((x.rows.length : Int) - 1) 0 = (s0 : Int) := by omega
 have hm3 : (if (x.rows.length : Int) - 1 < 0 then 0 else (x.rows.length : Int) - 1) = (s0 : Int) := by split <;> omega
 have hs4 : s0 ≤ 4 := by omega
 clear hs0
 rw [show x.v (.slice A x.rows.length c) = .agg #[.int .i64 x.id, .int .i64 x.i, .int .i64 x.o, .string (sB x.reg), .int .u8 x.kind, .string (sB x.spk), .slice A x.rows.length c] from rfl] at HLN ⊢
 go_enter Tryz.func125, Tryz.ntmps125
 go_wp2_with fail
 generalize hw1 : World.alloc _ _ = w1
 have B1 := ι (show Below w.heap.size w w1 by subst hw1; exact Below.more' _ _)
 clear hw1 hm hm2 hm3
 refine (HLN.out w1 B1.out).mono ?_
 rintro e w2 ⟨⟨A2, c2, rfl, hi, _⟩, hb⟩
 have HI := ι hi
 have B2 := ι (B1.out.trans (hb.mono B1.out.size))
 have HE := ι (show elenV x.rows = sumL (lensV x.rows) (s0 : Int) by unfold elenV; rw [HS0.out])
 have hll : (lensV x.rows).length ≤ 4 := by unfold lensV; rw [List.length_map]; exact hn
 generalize lensV x.rows = L at *
 clear hi hb B1
 go_wp2_with fail
 go_loop [3, 14] (fun n i => ∃ (k : Nat) (m : Int), k ≤ L.length ∧ 0 ≤ m ∧ m ≤ 4 + 32000000 * k ∧ n = .int .i64 m ∧ i = .int .i64 k ∧ Hid (sumL (L.drop k) m = sumL L (s0 : Int))) (fun _ i => L.length - (intOf i).toNat)
 case atStart => exact ⟨0, s0, Nat.zero_le _, by omega, by omega, rfl, rfl, ι rfl⟩
 case round =>
 obtain ⟨k, m, hk, hm0, hm1, rfl, rfl, HF⟩ := hrel
 by_cases hlt : k < L.length
 ·have hlt2 : (k : Int) < (L.length : Int) := by omega
  obtain ⟨n, hx⟩ : ∃ n, L[k]? = some n := ⟨_, List.getElem?_eq_getElem hlt⟩
  have HD := ι (sumL_drop hx m)
  have hn32 := HRNG.out n (List.mem_of_getElem? hx)
  obtain ⟨b, o, rfl, q0⟩ := HI.out k (.int .i64 n) (by rw [List.getElem?_map, hx]; rfl)
  clear hx
  by_cases h0 : n < 0
  ·have t0 : decide (n < 0) = true := by simpa using h0
   have H3 := ι (show -1 = sumL L (s0 : Int) by rw [← HF.out, HD.out, if_pos h0])
   clear h0 HF HD
   go_wp2_with fail
   go_ret
   exact ⟨by rw [HE.out, ← H3.out]; rfl, B2.out⟩
  have t0 : decide (n < 0) = false := by simpa using h0
  have H3 := ι (show sumL (L.drop (k + 1)) (m + n) = sumL L (s0 : Int) by rw [← HF.out, HD.out, if_neg h0])
  have hn0 : 0 ≤ n := by omega
  clear h0 HF HD
  go_wp2_with fail
  go_round
  case rel => exact ⟨k + 1, m + n, by omega, by omega, by omega, by go_num, by go_num, H3⟩
  case measure => simp [intOf]; omega
 obtain rfl : k = L.length := by omega
 have H3 := ι (show m = sumL L (s0 : Int) by rw [← HF.out, List.drop_length]; rfl)
 clear hlt HF
 go_wp2_with fail
 go_ret
 exact ⟨by rw [HE.out, ← H3.out]; rfl, B2.out⟩
end Go.Proofs.YtmopjhbfobmklaaGreatDoor
