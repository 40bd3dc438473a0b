/-
  Check of conform, IndexFunc. The conditions of the contracts are their hypotheses.
-/
import Derived.Test.YtmopjhbfobmklaaGreatDoorMCh5
set_option maxRecDepth 100000
set_option maxHeartbeats 40000000
namespace Go.Proofs.YtmopjhbfobmklaaGreatDoor
open Go.RowKit Go.Joins
set_option linter.unusedVariables false
set_option linter.unusedSimpArgs false
def ordB (l : List Rd) (k : Nat) (x : Rd) : Bool := match prv l k with | some y => decide (cmpB x.reel y.reel ≤ 0) | none => false
def DocG (l : List Rd) (d : Lst) (k : Nat) (x : Rd) : Prop := nmB x.reel = true ∧ ordB l k x = false ∧ dcE x.doc = 0 ∧ x.doc.rate = d.rate ∧ x.doc.drop = d.drop
structure ConfOk (l : List Rd) (d : Lst) : Prop where
 lst : lstE d = 0
 len : l.length ≤ 16
 docs : ∀ k x, l[k]? = some x → DocG l d k x
 regs : (regsL l).Pairwise (fun a b => a.name ≠ b.name)
 rlen : (regsL l).length ≤ 16
theorem dcE_regs {d : Dc} (h : dcE d = 0) : d.regs.length ≤ 16 := by
 unfold dcE at h
 split at h
 ·rename_i h1; exact absurd h h1
 split at h
 ·rename_i h1; exact absurd h h1
 rename_i h1
 exact rgsE_len (Decidable.not_not.1 h1)
theorem srtR_get {ys : List Rg} (h : SrtR ys) : ∀ (i j : Nat) (x y : Rg), i < j → ys[i]? = some x → ys[j]? = some y → 0 ≤ cmpB y.name x.name := by
 induction ys with
 | nil => intro i j x y _ hx; simp at hx
 | cons z t ih =>
  intro i j x y hij hx hy
  obtain ⟨j', rfl⟩ : ∃ j', j = j' + 1 := ⟨j - 1, by omega⟩
  rw [List.getElem?_cons_succ] at hy
  cases i with
  | zero =>
   rw [List.getElem?_cons_zero] at hx
   cases hx
   exact h.1 y (List.mem_of_getElem? hy)
  | succ i =>
   rw [List.getElem?_cons_succ] at hx
   exact ih h.2 i j' x y (by omega) hx hy
theorem srtR_dist {ys : List Rg} (h : SrtR ys) (hd : ∀ i x y, ys[i]? = some x → ys[i + 1]? = some y → y.name ≠ x.name) : ys.Pairwise (fun a b => a.name ≠ b.name) := by
 rw [List.pairwise_iff_getElem]
 intro i j hi hj hij e
 have hx : ys[i]? = some ys[i] := List.getElem?_eq_getElem hi
 have hy : ys[j]? = some ys[j] := List.getElem?_eq_getElem hj
 have hz : ys[i + 1]? = some (ys[i + 1]'(by omega)) := List.getElem?_eq_getElem (by omega)
 have h1 := srtR_get h i (i + 1) _ _ (by omega) hx hz
 have hne := hd i _ _ hx hz
 by_cases hj1 : j = i + 1
 ·subst hj1
  exact hne e.symm
 have h2 := srtR_get h (i + 1) j _ _ (by omega) hz hy
 rw [← e] at h2
 have h3 := cmp_anti (ys[i + 1]'(by omega)).name ys[i].name
 have h4 : cmpB (ys[i + 1]'(by omega)).name ys[i].name = 0 := by omega
 exact hne (cmp_zero h4)
theorem perm_dist {ys zs : List Rg} (h : ys.Perm zs) : ys.Pairwise (fun a b => a.name ≠ b.name) ↔ zs.Pairwise (fun a b => a.name ≠ b.name) :=
 h.pairwise_iff (fun h => Ne.symm h)
def PhiCcY (X g2 o2 m k n' cp1 : Nat) (x y : Rd) (pk le : Bool) : Nat → Value → Prop
 | 32, v => v = .int .i64 (k : Int)
 | 33, v => v = .bool (pk)
 | 34, v => v = .bool (pk)
 | 35, v => (pk = true → v = .pointer (some ⟨X, 0, none⟩)) ∧ (¬ (pk = true) → v = undef)
 | 36, v => (pk = true → v = .string (sB x.reel)) ∧ (¬ (pk = true) → v = undef)
 | 37, v => (pk = true → v = .slice (some ⟨g2, o2, none⟩) n' cp1) ∧ (¬ (pk = true) → v = undef)
 | 38, v => (pk = true → v = .int .i64 (k : Int)) ∧ (¬ (pk = true) → v = undef)
 | 39, v => (pk = true → v = .int .i64 (m : Int)) ∧ (¬ (pk = true) → v = undef)
 | 40, v => (pk = true → v = .pointer (some ⟨g2, o2 + m * 9, none⟩)) ∧ (¬ (pk = true) → v = undef)
 | 41, v => (pk = true → v = .pointer (some ⟨g2, o2 + m * 9, none⟩)) ∧ (¬ (pk = true) → v = undef)
 | 42, v => (pk = true → v = .string (sB y.reel)) ∧ (¬ (pk = true) → v = undef)
 | 43, v => (pk = true → v = .bool (le)) ∧ (¬ (pk = true) → v = undef)
 | 44, v => v = .bool (pk && le)
 | 31, v => v = .bool (pk && le)
 | _, _ => True
def PhiCc (X g2 o2 m k n' cp1 : Nat) (x y : Rd) (pk le : Bool) (sl : Nat) (v : Value) (w : World) : Prop := PhiCcY X g2 o2 m k n' cp1 x y pk le sl v
theorem ccheck_any (v : Value) (l : List Rd) (d : Lst) (c : Value) (w : World) (h : RdsAt w v l) (hdo : RdsOk l) (hc : CutsAt w c d.cuts) (hlo : LsOk d) (hw : Wt w) :
  Calls Tryz.prog 25 #[v, d.v c] w fun e w' => (∃ q, e = .returned (.int .i64 q) ∧ (q = 0 ↔ ConfOk l d)) ∧ Below w.heap.size w w' := by
 have HW := ι hw
 have HC := ι hc
 have HO := ι hlo
 have HL := ι h
 have HDO := ι hdo
 have hll := hdo.len
 obtain ⟨A, cp, rfl⟩ := hc.form
 obtain ⟨A1, cp1, rfl⟩ := h.form
 have HK := ι (fun W (hb : Below w.heap.size w W) => lcheck_any d _ W (HC.out.ext (Flat.stays _) hb) HO.out (HW.out.on hb))
 clear hw hc hlo h hdo
 rw [show d.v (.slice A d.cuts.length cp) = .agg #[.string (sB d.title), .int .u8 d.rate, .bool d.drop, .slice A d.cuts.length cp] from rfl] at HK ⊢
 obtain ⟨G, hG⟩ : ∃ G, G = w.heap.size := ⟨_, rfl⟩
 obtain ⟨L, hL⟩ : ∃ L, L = lstE d := ⟨_, rfl⟩
 rw [← hL] at HK
 have HLE := ι hL
 clear hL
 go_enter Tryz.func25, Tryz.ntmps25
 go_wp2_with fail
 rw [← hG]
 generalize hw1 : World.alloc w _ = w1
 have F1 := ι (show Held w1 G (d.cs (.slice A d.cuts.length cp)) by subst hw1; exact Held.new hG)
 have B1 := ι (show Below w.heap.size w w1 by subst hw1; exact Below.more' _ _)
 have HGe := ι hG
 clear hw1 hG
 refine (HK.out w1 B1.out).mono ?_
 rintro e w2 ⟨rfl, hb⟩
 have B2 := ι (B1.out.trans (hb.mono B1.out.size))
 have F2 := ι (F1.out.ext hb)
 have hG2 := F2.out.lt
 clear hb F1 B1 HK
 by_cases h0 : ¬ L = 0
 ·have t0 : (L != 0) = true := by simpa using h0
  have HN0 := ι h0
  have H3 := ι (show ¬ ConfOk l d from fun h => HN0.out (HLE.out.trans h.lst))
  go_wp2_with fail
  go_ret
  exact ⟨⟨_, rfl, ⟨fun h => absurd h HN0.out, fun h => absurd h H3.out⟩⟩, B2.out⟩
 have h0 : L = 0 := Decidable.not_not.1 h0
 have HL0 := ι (show lstE d = 0 by rw [← HLE.out]; exact h0)
 subst h0
 by_cases h16 : 16 < l.length
 ·have t0 : (16 : Int) < (l.length : Int) := by omega
  have H16 := ι h16
  clear h16
  have H3 := ι (show ¬ ConfOk l d from fun h => absurd h.len (by have := H16.out; omega))
  go_wp2_with fail
  go_ret
  exact ⟨⟨_, rfl, ⟨fun h => absurd h (by decide), fun h => absurd h H3.out⟩⟩, B2.out⟩
 have H16 := ι (show l.length ≤ 16 by omega)
 have t0 : ¬ (16 : Int) < (l.length : Int) := by omega
 clear h16
 go_wp2_with fail
 clear t0
 go_loopw [21] (fun i wr => ∃ k : Nat, k ≤ l.length ∧ i = .int .i64 k ∧ Hid (∀ j x, j < k → l[j]? = some x → DocG l d j x) ∧ Hid (Below w2.heap.size w2 wr)) (fun i _ => l.length - (intOf i).toNat)
 case atStart => exact ⟨0, Nat.zero_le _, rfl, ι (fun j x hj _ => by omega), ι (Below.refl _ _)⟩
 case round =>
 obtain ⟨k, hk, rfl, HF, BR⟩ := hrel
 have BW := ι (show Below w.heap.size w wr from B2.out.trans (BR.out.mono B2.out.size))
 by_cases hlt : k < l.length
 ·have hlt2 : (k : Int) < (l.length : Int) := by omega
  obtain ⟨x, hx⟩ : ∃ x, l[k]? = some x := ⟨_, List.getElem?_eq_getElem hlt⟩
  have HXK := ι hx
  have HOX := ι (HDO.out.docs x (List.mem_of_getElem? hx))
  obtain ⟨g, o, r, e, s, rfl, ⟨q0, q1, q2, q3, q4, q5, q6, q7, q8⟩, hd⟩ := RdsAt.get2 HL.out BW.out hx
  obtain ⟨rA, rc, rfl⟩ := hd.regs.form
  obtain ⟨eA, ec, rfl⟩ := hd.evs.form
  obtain ⟨sA, sc, rfl⟩ := hd.cms.form
  have HD := ι hd
  obtain ⟨m, y, hmk, hy⟩ : ∃ m y, (0 < k → m + 1 = k) ∧ l[m]? = some y := by
   by_cases h0 : 0 < k
   ·exact ⟨k - 1, _, fun _ => by omega, List.getElem?_eq_getElem (by omega)⟩
   exact ⟨k, _, fun h => absurd h h0, hx⟩
  have HY0 := ι hy
  have hml : m < l.length := (List.getElem?_eq_some_iff.1 hy).1
  have hgr : g < wr.heap.size := World.block_lt_of_cell? wr _ q0
  obtain ⟨pk, hpk⟩ : ∃ b, b = decide (0 < k) := ⟨_, rfl⟩
  obtain ⟨le, hle⟩ : ∃ b, b = decide (cmpB x.reel y.reel ≤ 0) := ⟨_, rfl⟩
  have HOB := ι (show ordB l k x = (pk && le) by
   unfold ordB
   by_cases h0 : 0 < k
   ·have e : prv l k = some y := by
     unfold prv
     rw [if_neg (by omega), show k - 1 = m by have := hmk h0; omega]
     exact hy
    rw [e, hpk, show decide (0 < k) = true by simpa using h0, Bool.true_and, hle]
   have e : prv l k = none := by
    unfold prv
    rw [if_pos (by omega)]
   rw [e, hpk, show decide (0 < k) = false by simpa using h0, Bool.false_and])
  have HLEQ := ι (show (Go.Op.bytesLess (sB x.reel).toList (sB y.reel).toList || (sB x.reel).toList == (sB y.reel).toList) = le by rw [hle, ← leq_cmp, toL, toL])
  have HP := ι (And.intro hpk (And.intro hmk hml))
  obtain ⟨nm, hnm⟩ : ∃ b, b = nmB x.reel := ⟨_, rfl⟩
  have HNM := ι (fun W => show Calls Tryz.prog 52 #[.string (sB x.reel)] W fun e w' => e = .returned (.bool nm) ∧ W = w' from by rw [hnm]; exact name_any (sB x.reel) W)
  have HNE := ι hnm
  obtain ⟨q, hq⟩ : ∃ q, q = dcE x.doc := ⟨_, rfl⟩
  have HDC := ι (show ∀ W, Below w.heap.size w W → Calls Tryz.prog 19 #[.agg #[.string (sB x.doc.title), .string (sB x.doc.lang), .int .u8 x.doc.rate, .bool x.doc.drop, .int .i64 x.doc.last, .slice rA x.doc.regs.length rc, .slice eA x.doc.evs.length ec, .slice sA x.doc.cms.length sc]] W fun e' w' => e' = .returned (.int .i64 q) ∧ Below W.heap.size W w' from fun W hb => by
   rw [hq]
   exact dcheck_any x.doc _ _ _ W (HD.out.ext hb) HOX.out (HW.out.on hb))
  have HQE := ι hq
  have HI := ι (And.intro hk hlt)
  clear hx hy hpk hmk hml hk hd hnm hq hle
  go_wp2_with fail
  generalize hw3 : World.alloc wr _ = w3
  obtain ⟨X, hX⟩ : ∃ X, X = wr.heap.size := ⟨_, rfl⟩
  rw [← hX]
  have F3 := ι (show Held w3 X (.string (sB x.reel) :: x.doc.cs (.slice rA x.doc.regs.length rc) (.slice eA x.doc.evs.length ec) (.slice sA x.doc.cms.length sc)) by subst hw3; exact Held.new hX)
  have B3 := ι (show Below wr.heap.size wr w3 by subst hw3; exact Below.more' _ _)
  clear hw3 hX q0 q1 q2 q3 q4 q5 q6 q7 q8
  refine (HNM.out w3).mono ?_
  rintro e' w5 ⟨rfl, rfl⟩
  cases nm with
  | false =>
   have BW3 := ι (show Below w.heap.size w w3 from BW.out.trans (B3.out.mono BW.out.size))
   have H3 := ι (show ¬ ConfOk l d from fun h => absurd ((h.docs k x HXK.out).1.symm.trans HNE.out.symm) (by decide))
   go_wp2_with fail
   go_ret
   exact ⟨⟨_, rfl, ⟨fun h => absurd h (by decide), fun h => absurd h H3.out⟩⟩, BW3.out⟩
  | true =>
  go_wp2_with fail
  obtain ⟨N, hN⟩ : ∃ N, N = w3.heap.size := ⟨_, rfl⟩
  have hXN : X < N := by have := F3.out.lt; omega
  obtain ⟨g2, o2, r2, e2, s2, eg, ⟨y0, y1, y2, y3, y4, y5, y6, y7, y8⟩, hd2⟩ := RdsAt.get2 HL.out (BW.out.trans (B3.out.mono BW.out.size)) HY0.out
  obtain ⟨rfl, rfl⟩ : g2 = g ∧ o2 = o := by
   injection eg with e
   injection e with e1 e2
   exact ⟨e1.symm, e2.symm⟩
  clear eg hd2 y1 y2 y3 y4 y5 y6 y7 y8
  have hgN : g2 < N := by have h : g2 < w3.heap.size := World.block_lt_of_cell? w3 _ y0; omega
  have GN := ι (show wr.heap.size ≤ N by have := B3.out.size; omega)
  clear hN
  have e0 : w3.cell? ⟨X, 0, none⟩ = some (.string (sB x.reel)) := F3.out.cell 0
  have hpk1 : decide ((0 : Int) < (k : Int)) = pk := by rw [HP.out.1]; simp
  have hpk2 : decide (0 < k) = pk := HP.out.1.symm
  have hle1 := HLEQ.out
  have m4 : (m : Int) < (l.length : Int) := by have := HP.out.2.2; omega
  have m4' : m < l.length := HP.out.2.2
  have m3 : pk = true → IntKind.i64.wrap ((k : Int) - 1) = (m : Int) := fun h => by
   have := HP.out.2.1 (of_decide_eq_true (HP.out.1.symm.trans h))
   have := H16.out
   rw [IntKind.wrap_i64]
   omega
  refine wp_region_spec (by kernel_rfl) (fun w' => Below N w3 w') (PhiCc X g2 o2 m k l.length cp1 x y pk le) 89 rfl (by kernel_rfl) (Below.refl _ _).drew ?hops ?hend
  case hops =>
   refine ⟨?o0, ?o1, ?o2, ?o3, ?o4, ?o5, ?o6, ?o7, ?o8, ?o9, ?o10, ?o11, ?o12, ?o13, trivial⟩
   case o0 =>
    intro ev w8 hI δ φ
    have a6 : ev 6 = .int .i64 (k : Int) := φ 6 (by kernel_rfl)
    clear δ φ
    try dsimp only
    simp [OpRuns, execOp, evalOf, a6, go_sem]
    exact ⟨hI, rfl⟩
   case o1 =>
    intro ev w8 hI δ φ
    have a32 : ev 32 = .int .i64 (k : Int) := δ 0 32 (by kernel_rfl) rfl
    clear δ φ
    try dsimp only
    simp [OpRuns, execOp, evalOf, a32, go_sem]
    exact ⟨hI, congrArg Value.bool hpk2⟩
   case o2 =>
    intro ev w8 hI δ φ
    have a33 : ev 33 = .bool (pk) := δ 1 33 (by kernel_rfl) rfl
    clear δ φ
    try dsimp only
    simp [OpRuns, execOp, evalOf, a33, go_sem]
    exact ⟨hI, rfl⟩
   case o3 =>
    intro ev w8 hI δ φ
    have ag : ev 34 = .bool pk := δ 2 34 (by kernel_rfl) rfl
    refine γ ag rfl (fun hR => ?_) fun hn d hd => by cases hd; exact ⟨fun hr => absurd hr hn, fun _ => rfl⟩
    clear ag
    have a7 : ev 7 = .pointer (some ⟨X, 0, none⟩) := φ 7 (by kernel_rfl)
    clear δ φ
    try dsimp only
    simp [OpRuns, execOp, evalOf, a7, go_sem]
    exact ⟨hI, ⟨fun _ => rfl, fun h => absurd hR h⟩⟩
   case o4 =>
    intro ev w8 hI δ φ
    have ag : ev 34 = .bool pk := δ 2 34 (by kernel_rfl) rfl
    refine γ ag rfl (fun hR => ?_) fun hn d hd => by cases hd; exact ⟨fun hr => absurd hr hn, fun _ => rfl⟩
    clear ag
    have a35 : ev 35 = .pointer (some ⟨X, 0, none⟩) := (δ 3 35 (by kernel_rfl) rfl).1 hR
    have y0 : w8.cell? ⟨X, 0, none⟩ = some (.string (sB x.reel)) := (hI.cell (p := ⟨X, 0, none⟩) hXN).trans e0
    clear δ φ
    try dsimp only
    simp [OpRuns, execOp, evalOf, a35, y0, go_sem]
    exact ⟨hI, ⟨fun _ => rfl, fun h => absurd hR h⟩⟩
   case o5 =>
    intro ev w8 hI δ φ
    have ag : ev 34 = .bool pk := δ 2 34 (by kernel_rfl) rfl
    refine γ ag rfl (fun hR => ?_) fun hn d hd => by cases hd; exact ⟨fun hr => absurd hr hn, fun _ => rfl⟩
    clear ag
    have a0 : ev 0 = .slice (some ⟨g2, o2, none⟩) l.length cp1 := φ 0 (by kernel_rfl)
    clear δ φ
    try dsimp only
    simp [OpRuns, execOp, evalOf, a0, go_sem]
    exact ⟨hI, ⟨fun _ => rfl, fun h => absurd hR h⟩⟩
   case o6 =>
    intro ev w8 hI δ φ
    have ag : ev 34 = .bool pk := δ 2 34 (by kernel_rfl) rfl
    refine γ ag rfl (fun hR => ?_) fun hn d hd => by cases hd; exact ⟨fun hr => absurd hr hn, fun _ => rfl⟩
    clear ag
    have a6 : ev 6 = .int .i64 (k : Int) := φ 6 (by kernel_rfl)
    clear δ φ
    try dsimp only
    simp [OpRuns, execOp, evalOf, a6, go_sem]
    exact ⟨hI, ⟨fun _ => rfl, fun h => absurd hR h⟩⟩
   case o7 =>
    intro ev w8 hI δ φ
    have ag : ev 34 = .bool pk := δ 2 34 (by kernel_rfl) rfl
    refine γ ag rfl (fun hR => ?_) fun hn d hd => by cases hd; exact ⟨fun hr => absurd hr hn, fun _ => rfl⟩
    clear ag
    have m3' := m3 hR
    have a38 : ev 38 = .int .i64 (k : Int) := (δ 6 38 (by kernel_rfl) rfl).1 hR
    clear δ φ
    try dsimp only
    simp [OpRuns, execOp, evalOf, a38, m3', go_sem]
    exact ⟨hI, ⟨fun _ => rfl, fun h => absurd hR h⟩⟩
   case o8 =>
    intro ev w8 hI δ φ
    have ag : ev 34 = .bool pk := δ 2 34 (by kernel_rfl) rfl
    refine γ ag rfl (fun hR => ?_) fun hn d hd => by cases hd; exact ⟨fun hr => absurd hr hn, fun _ => rfl⟩
    clear ag
    have a37 : ev 37 = .slice (some ⟨g2, o2, none⟩) l.length cp1 := (δ 5 37 (by kernel_rfl) rfl).1 hR
    have a39 : ev 39 = .int .i64 (m : Int) := (δ 7 39 (by kernel_rfl) rfl).1 hR
    clear δ φ
    try dsimp only
    simp [OpRuns, execOp, evalOf, a37, a39, m4, m4', go_sem]
    exact ⟨hI, ⟨fun _ => rfl, fun h => absurd hR h⟩⟩
   case o9 =>
    intro ev w8 hI δ φ
    have ag : ev 34 = .bool pk := δ 2 34 (by kernel_rfl) rfl
    refine γ ag rfl (fun hR => ?_) fun hn d hd => by cases hd; exact ⟨fun hr => absurd hr hn, fun _ => rfl⟩
    clear ag
    have a40 : ev 40 = .pointer (some ⟨g2, o2 + m * 9, none⟩) := (δ 8 40 (by kernel_rfl) rfl).1 hR
    clear δ φ
    try dsimp only
    simp [OpRuns, execOp, evalOf, a40, go_sem]
    exact ⟨hI, ⟨fun _ => rfl, fun h => absurd hR h⟩⟩
   case o10 =>
    intro ev w8 hI δ φ
    have ag : ev 34 = .bool pk := δ 2 34 (by kernel_rfl) rfl
    refine γ ag rfl (fun hR => ?_) fun hn d hd => by cases hd; exact ⟨fun hr => absurd hr hn, fun _ => rfl⟩
    clear ag
    have a41 : ev 41 = .pointer (some ⟨g2, o2 + m * 9, none⟩) := (δ 9 41 (by kernel_rfl) rfl).1 hR
    have y0 : w8.cell? ⟨g2, o2 + m * 9, none⟩ = some (.string (sB y.reel)) := (hI.cell (p := ⟨g2, o2 + m * 9, none⟩) hgN).trans y0
    clear δ φ
    try dsimp only
    simp [OpRuns, execOp, evalOf, a41, y0, go_sem]
    exact ⟨hI, ⟨fun _ => rfl, fun h => absurd hR h⟩⟩
   case o11 =>
    intro ev w8 hI δ φ
    have ag : ev 34 = .bool pk := δ 2 34 (by kernel_rfl) rfl
    refine γ ag rfl (fun hR => ?_) fun hn d hd => by cases hd; exact ⟨fun hr => absurd hr hn, fun _ => rfl⟩
    clear ag
    have a36 : ev 36 = .string (sB x.reel) := (δ 4 36 (by kernel_rfl) rfl).1 hR
    have a42 : ev 42 = .string (sB y.reel) := (δ 10 42 (by kernel_rfl) rfl).1 hR
    clear δ φ
    try dsimp only
    simp [OpRuns, execOp, evalOf, a36, a42, hle1, go_sem]
    exact ⟨hI, ⟨fun _ => rfl, fun h => absurd hR h⟩⟩
   case o12 =>
    intro ev w8 hI δ φ
    have a34 : ev 34 = .bool (pk) := δ 2 34 (by kernel_rfl) rfl
    have ax : pk = true → ev 43 = .bool (le) := fun hc => (δ 11 43 (by kernel_rfl) rfl).1 hc
    clear δ φ
    obtain ⟨cc, hcc⟩ : ∃ cc, cc = pk := ⟨_, rfl⟩
    rw [← hcc] at a34
    cases cc with
    | true =>
     have ax := ax hcc.symm
     have hv : (Value.bool (le)) = (Value.bool (pk && le)) := by rw [← hcc]; simp
     clear hcc
     try dsimp only
     simp [OpRuns, execOp, evalOf, a34, ax, go_sem]
     exact ⟨hI, hv⟩
    | false =>
     clear ax
     have hv : Value.bool false = (Value.bool (pk && le)) := by rw [← hcc]; simp
     clear hcc
     try dsimp only
     simp [OpRuns, execOp, evalOf, a34, go_sem]
     exact ⟨hI, hv⟩
   case o13 =>
   intro ev w8 hI δ φ
   have a44 : ev 44 = .bool (pk && le) := δ 12 44 (by kernel_rfl) rfl
   clear δ φ
   try dsimp only
   simp [OpRuns, execOp, evalOf, a44, go_sem]
   exact ⟨hI, rfl⟩
  case hend =>
  intro a w7 hdf hsz hI hPhi κ
  replace hdf : a.defers = [] := hdf
  replace hsz : a.tmps.size = 89 := hsz
  have x31 : a.tmps.getD 31 undef = .bool (pk && le) := hPhi 13 31 (by kernel_rfl)
  have x0 := κA κ 0 (Value.slice (some { block := g2, off := o2 }) l.length cp1) rfl rfl
  have x1 := κA κ 1 (Value.agg #[Value.string (sB d.title), Value.int IntKind.u8 d.rate, Value.bool d.drop, Value.slice A d.cuts.length cp]) rfl rfl
  have x2 := κA κ 2 (undef) rfl rfl
  have x3 := κA κ 3 (Value.pointer (some { block := G, off := 0 })) rfl rfl
  have x4 := κA κ 4 (u4) rfl rfl
  have x5 := κA κ 5 (Value.int IntKind.i64 0) rfl rfl
  have x6 := κA κ 6 (Value.int IntKind.i64 (↑k : Int)) rfl rfl
  have x7 := κA κ 7 (Value.pointer (some { block := X, off := 0 })) rfl rfl
  have x8 := κA κ 8 (u8) rfl rfl
  have x9 := κA κ 9 (undef) rfl rfl
  have x10 := κA κ 10 (undef) rfl rfl
  have x11 := κA κ 11 (Value.agg #[Value.string (sB d.title), Value.int IntKind.u8 d.rate, Value.bool d.drop, Value.slice A d.cuts.length cp]) rfl rfl
  have x12 := κA κ 12 (Value.int IntKind.i64 0) rfl rfl
  have x13 := κA κ 13 (Value.int IntKind.i64 0) rfl rfl
  have x14 := κA κ 14 (Value.bool false) rfl rfl
  have x15 := κA κ 15 (undef) rfl rfl
  have x16 := κA κ 16 (Value.slice (some { block := g2, off := o2 }) l.length cp1) rfl rfl
  have x17 := κA κ 17 (Value.int IntKind.i64 (↑l.length : Int)) rfl rfl
  have x18 := κA κ 18 (Value.bool (decide (16 < (↑l.length : Int)))) rfl rfl
  have x19 := κA κ 19 (Value.slice (some { block := g2, off := o2 }) l.length cp1) rfl rfl
  have x20 := κA κ 20 (Value.int IntKind.i64 (↑l.length : Int)) rfl rfl
  have x21 := κA κ 21 (Value.int IntKind.i64 (↑k : Int)) rfl rfl
  have x22 := κA κ 22 (Value.bool true) rfl rfl
  have x23 := κA κ 23 (Value.int IntKind.i64 (↑k : Int)) rfl rfl
  have x24 := κA κ 24 (Value.pointer (some { block := g2, off := o2 + k * 9 })) rfl rfl
  have x25 := κA κ 25 (Value.agg #[Value.string (sB x.reel), Value.string (sB x.doc.title), Value.string (sB x.doc.lang), Value.int IntKind.u8 x.doc.rate, Value.bool x.doc.drop, Value.int IntKind.i64 x.doc.last, Value.slice rA x.doc.regs.length rc, Value.slice eA x.doc.evs.length ec, Value.slice sA x.doc.cms.length sc]) rfl rfl
  have x26 := κA κ 26 (Value.bool false) rfl rfl
  have x27 := κA κ 27 (Value.pointer (some { block := X, off := 0 })) rfl rfl
  have x28 := κA κ 28 (Value.string (sB x.reel)) rfl rfl
  have x29 := κA κ 29 (Value.bool true) rfl rfl
  have x30 := κA κ 30 (Value.bool false) rfl rfl
  have x45 := κA κ 45 (u45) rfl rfl
  have x46 := κA κ 46 (u46) rfl rfl
  have x47 := κA κ 47 (u47) rfl rfl
  have x48 := κA κ 48 (u48) rfl rfl
  have x49 := κA κ 49 (u49) rfl rfl
  have x50 := κA κ 50 (u50) rfl rfl
  have x51 := κA κ 51 (u51) rfl rfl
  have x52 := κA κ 52 (u52) rfl rfl
  have x53 := κA κ 53 (u53) rfl rfl
  have x54 := κA κ 54 (u54) rfl rfl
  have x55 := κA κ 55 (u55) rfl rfl
  have x56 := κA κ 56 (u56) rfl rfl
  have x57 := κA κ 57 (u57) rfl rfl
  have x58 := κA κ 58 (u58) rfl rfl
  have x59 := κA κ 59 (u59) rfl rfl
  have x60 := κA κ 60 (u60) rfl rfl
  have x61 := κA κ 61 (u61) rfl rfl
  have x62 := κA κ 62 (u62) rfl rfl
  have x63 := κA κ 63 (u63) rfl rfl
  have x64 := κA κ 64 (u64) rfl rfl
  have x65 := κA κ 65 (u65) rfl rfl
  have x66 := κA κ 66 (undef) rfl rfl
  have x67 := κA κ 67 (undef) rfl rfl
  have x68 := κA κ 68 (undef) rfl rfl
  have x69 := κA κ 69 (undef) rfl rfl
  have x70 := κA κ 70 (undef) rfl rfl
  have x71 := κA κ 71 (undef) rfl rfl
  have x72 := κA κ 72 (undef) rfl rfl
  have x73 := κA κ 73 (undef) rfl rfl
  have x74 := κA κ 74 (undef) rfl rfl
  have x75 := κA κ 75 (undef) rfl rfl
  have x76 := κA κ 76 (undef) rfl rfl
  have x77 := κA κ 77 (undef) rfl rfl
  have x78 := κA κ 78 (undef) rfl rfl
  have x79 := κA κ 79 (undef) rfl rfl
  have x80 := κA κ 80 (undef) rfl rfl
  have x81 := κA κ 81 (undef) rfl rfl
  have x82 := κA κ 82 (undef) rfl rfl
  have x83 := κA κ 83 (undef) rfl rfl
  have x84 := κA κ 84 (undef) rfl rfl
  have x85 := κA κ 85 (undef) rfl rfl
  have x86 := κA κ 86 (undef) rfl rfl
  have x87 := κA κ 87 (undef) rfl rfl
  have x88 := κA κ 88 (undef) rfl rfl
  have ea := act_lit hsz hdf
  simp only [getDs] at ea
  rw [x31, x0, x1, x2, x3, x4, x5, x6, x7, x8, x9, x10, x11, x12, x13, x14, x15, x16, x17, x18, x19, x20, x21, x22, x23, x24, x25, x26, x27, x28, x29, x30, x45, x46, x47, x48, x49, x50, x51, x52, x53, x54, x55, x56, x57, x58, x59, x60, x61, x62, x63, x64, x65, x66, x67, x68, x69, x70, x71, x72, x73, x74, x75, x76, x77, x78, x79, x80, x81, x82, x83, x84, x85, x86, x87, x88] at ea
  rw [ea]
  clear ea x31 x0 x1 x2 x3 x4 x5 x6 x7 x8 x9 x10 x11 x12 x13 x14 x15 x16 x17 x18 x19 x20 x21 x22 x23 x24 x25 x26 x27 x28 x29 x30 x45 x46 x47 x48 x49 x50 x51 x52 x53 x54 x55 x56 x57 x58 x59 x60 x61 x62 x63 x64 x65 x66 x67 x68 x69 x70 x71 x72 x73 x74 x75 x76 x77 x78 x79 x80 x81 x82 x83 x84 x85 x86 x87 x88 hPhi κ hdf hsz
  generalize a.tmps.getD 32 undef = u32, a.tmps.getD 33 undef = u33, a.tmps.getD 34 undef = u34, a.tmps.getD 35 undef = u35, a.tmps.getD 36 undef = u36, a.tmps.getD 37 undef = u37, a.tmps.getD 38 undef = u38, a.tmps.getD 39 undef = u39, a.tmps.getD 40 undef = u40, a.tmps.getD 41 undef = u41, a.tmps.getD 42 undef = u42, a.tmps.getD 43 undef = u43, a.tmps.getD 44 undef = u44
  clear a
  clear hpk1 hpk2 m4 m4' m3 e0 y0 hle1
  have B7 := ι (show Below wr.heap.size wr w7 from B3.out.trans (hI.mono GN.out))
  have F7 := ι (F3.out.below hI hXN)
  have BW7 := ι (show Below w.heap.size w w7 from BW.out.trans (B7.out.mono BW.out.size))
  clear hI F3 B3 hXN hgN GN
  cases hr : (pk && le) with
  | true =>
   have H3 := ι (show ¬ ConfOk l d from fun h => absurd ((HOB.out.trans hr).symm.trans (h.docs k x HXK.out).2.1) (by decide))
   go_wp2_with fail
   go_ret
   exact ⟨⟨_, rfl, ⟨fun h => absurd h (by decide), fun h => absurd h H3.out⟩⟩, BW7.out⟩
  | false =>
  have HO2 := ι (show ordB l k x = false by rw [HOB.out, hr])
  clear hr HOB
  have fq := F7.out.cell
  have hX7 := F7.out.lt
  unfold Dc.cs at fq
  go_wp2_with fail
  refine (HDC.out w7 BW7.out).mono ?_
  rintro e' w8 ⟨rfl, hb⟩
  have B8 := ι (B7.out.trans (hb.mono B7.out.size))
  have F8 := ι (F7.out.ext hb)
  have BW8 := ι (show Below w.heap.size w w8 from BW.out.trans (B8.out.mono BW.out.size))
  clear hb fq hX7 F7 B7 BW7 HDC
  by_cases hq0' : q ≠ 0
  ·have t0 : (q != 0) = true := by simpa using hq0'
   have HQN := ι hq0'
   have H3 := ι (show ¬ ConfOk l d from fun h => HQN.out (HQE.out.trans (h.docs k x HXK.out).2.2.1))
   go_wp2_with fail
   go_ret
   exact ⟨⟨_, rfl, ⟨fun h => absurd h HQN.out, fun h => absurd h H3.out⟩⟩, BW8.out⟩
  have hq0 : q = 0 := by omega
  subst hq0
  have fq := F8.out.cell
  have hX8 := F8.out.lt
  have fq2 := (F2.out.below (BR.out.trans (B8.out.mono BR.out.size)) hG2).cell
  have hG8 := (F2.out.below (BR.out.trans (B8.out.mono BR.out.size)) hG2).lt
  unfold Dc.cs at fq
  unfold Lst.cs at fq2
  clear hq0'
  by_cases hra : x.doc.rate = d.rate
  ·by_cases hdr : x.doc.drop = d.drop
   ·have t1 : (x.doc.rate != d.rate) = false := by simpa using hra
    have t2 : (x.doc.drop != d.drop) = false := by simpa using hdr
    have HGD := ι (show DocG l d k x from ⟨HNE.out.symm, HO2.out, HQE.out.symm, hra, hdr⟩)
    have BM := ι (show Below w2.heap.size w2 w8 from BR.out.trans (B8.out.mono BR.out.size))
    rw [hra, hdr] at fq
    clear hra hdr t1 t2
    go_wp2_with fail
    clear fq fq2
    go_roundw
    case rel => exact ⟨k + 1, by have := HI.out.2; omega, by go_num, ι (fun j a hj ha => by
     by_cases hjk : j < k
     ·exact HF.out j a hjk ha
     obtain rfl : j = k := by omega
     rw [HXK.out] at ha
     cases ha
     exact HGD.out), BM⟩
    case measure => simp [intOf]; have := HI.out.2; omega
   have t1 : (x.doc.rate == d.rate) = true := by simpa using hra
   have t2 : (x.doc.drop == d.drop) = false := by simpa using hdr
   have t1' : (x.doc.rate != d.rate) = false := by simpa using hra
   have t2' : (x.doc.drop != d.drop) = true := by simpa using hdr
   have HDR := ι hdr
   clear hra hdr
   have H3 := ι (show ¬ ConfOk l d from fun h => HDR.out (h.docs k x HXK.out).2.2.2.2)
   go_wp2_with fail
   go_ret
   exact ⟨⟨_, rfl, ⟨fun h => absurd h (by decide), fun h => absurd h H3.out⟩⟩, BW8.out⟩
  have t1 : (x.doc.rate == d.rate) = false := by simpa using hra
  have t1' : (x.doc.rate != d.rate) = true := by simpa using hra
  have HRA := ι hra
  clear hra
  have H3 := ι (show ¬ ConfOk l d from fun h => HRA.out (h.docs k x HXK.out).2.2.2.1)
  go_wp2_with fail
  go_ret
  exact ⟨⟨_, rfl, ⟨fun h => absurd h (by decide), fun h => absurd h H3.out⟩⟩, BW8.out⟩
 obtain rfl : k = l.length := by omega
 have HAD := ι (show ∀ j x, l[j]? = some x → DocG l d j x from fun j x hx => HF.out j x (List.getElem?_eq_some_iff.1 hx).1 hx)
 have HR16 := ι (show ∀ x ∈ l, x.doc.regs.length ≤ 16 from fun x hx => by
  obtain ⟨j, hj⟩ := List.getElem?_of_mem hx
  exact dcE_regs (HAD.out j x hj).2.2.1)
 clear hlt
 go_wp2_with fail
 refine (regions_any _ l wr (SeqAt.ext HL.out RdC.stays BW.out) H16.out HR16.out).mono ?_
 rintro e w3 ⟨⟨v', ys, rfl, hp, hs, ho⟩, hb⟩
 have HPM := ι hp
 have HSR := ι hs
 obtain ⟨A3, c3, e3⟩ : ∃ A3 c3, v' = .slice A3 ys.length c3 := by obtain ⟨A3, c3, e, _⟩ := row_of_ownK ho; exact ⟨A3, c3, e⟩
 subst e3
 have HYS := ι (show RegsAt w3 (.slice A3 ys.length c3) ys from OwnS.at (rgs_own ho) (by decide))
 have B3 := ι (BW.out.trans (hb.mono BW.out.size))
 have hyl : ys.length ≤ 256 := by
  have h1 := regsK_len HR16.out l.length
  rw [regsK_all] at h1
  have := H16.out
  have := hp.length_eq
  omega
 clear hp hs ho hb
 go_wp2_with fail
 go_loopw [10] (fun i wr => ∃ k : Nat, 1 ≤ k ∧ (k ≤ ys.length ∨ k = 1) ∧ i = .int .i64 k ∧ Hid (∀ j x y, j + 1 < k → ys[j]? = some x → ys[j + 1]? = some y → y.name ≠ x.name) ∧ Hid (Below w3.heap.size w3 wr)) (fun i _ => ys.length - (intOf i).toNat)
 case atStart => exact ⟨1, Nat.le_refl _, .inr rfl, rfl, ι (fun j x y hj _ _ => by omega), ι (Below.refl _ _)⟩
 case round =>
 obtain ⟨k, hk1, hk, rfl, HF2, BR2⟩ := hrel
 have BW2 := ι (show Below w.heap.size w wr from B3.out.trans (BR2.out.mono B3.out.size))
 by_cases hlt : k < ys.length
 ·have hlt2 : (k : Int) < (ys.length : Int) := by omega
  obtain ⟨m, hm⟩ : ∃ m, m + 1 = k := ⟨k - 1, by omega⟩
  obtain ⟨x, hx⟩ : ∃ x, ys[k]? = some x := ⟨_, List.getElem?_eq_getElem hlt⟩
  obtain ⟨y, hy⟩ : ∃ y, ys[m]? = some y := ⟨_, List.getElem?_eq_getElem (by omega)⟩
  have HXX := ι hx
  have HYY := ι hy
  have HMM := ι hm
  have HYR := SeqAt.ext HYS.out (Flat.stays _) BR2.out
  obtain ⟨g, o, eg, p0, p1, p2, p3, p4, p5, p6⟩ := RegsAt.get HYR hx
  obtain ⟨g2, o2, eg2, z0, z1, z2, z3, z4, z5, z6⟩ := RegsAt.get HYR hy
  subst eg
  obtain ⟨rfl, rfl⟩ : g = g2 ∧ o = o2 := by
   injection eg2 with e
   injection e with e1 e2
   exact ⟨e1, e2⟩
  clear eg2 HYR
  have hgr : g < wr.heap.size := World.block_lt_of_cell? wr _ p0
  have m1 : IntKind.i64.wrap ((k : Int) - 1) = (m : Int) := by rw [IntKind.wrap_i64]; omega
  have m2 : (m : Int) < (ys.length : Int) := by omega
  have m3 : m < ys.length := by omega
  have m4 : (0 : Int) ≤ (m : Int) := by omega
  obtain ⟨eb, heb⟩ : ∃ b, b = decide (x.name = y.name) := ⟨_, rfl⟩
  have t1 : ((sB x.name).toList == (sB y.name).toList) = eb := by rw [str_eq, heb]
  have HEB := ι heb
  clear hx hy hm heb
  go_wp2_with fail
  go_quiet (fail)
  generalize hw4 : wr.drewN nq = w4
  have B4 := ι (show Below w3.heap.size w3 w4 by subst hw4; exact below_drewN BR2.out nq)
  clear hw4 p0 p1 p2 p3 p4 p5 p6 z0 z1 z2 z3 z4 z5 z6 t1
  cases eb with
  | true =>
   have BW4 := ι (show Below w.heap.size w w4 from B3.out.trans (B4.out.mono B3.out.size))
   have H3 := ι (show ¬ ConfOk l d from fun h => by
     have hp := (perm_dist HPM.out).2 h.regs
     rw [List.pairwise_iff_getElem] at hp
     have hx := List.getElem?_eq_some_iff.1 HXX.out
     have hy := List.getElem?_eq_some_iff.1 HYY.out
     refine hp m k hy.1 hx.1 (by have := HMM.out; omega) ?_
     rw [hx.2, hy.2]
     exact (of_decide_eq_true HEB.out.symm).symm)
   go_wp2_with fail
   go_ret
   exact ⟨⟨_, rfl, ⟨fun h => absurd h (by decide), fun h => absurd h H3.out⟩⟩, BW4.out⟩
  | false =>
   go_wp2_with fail
   go_roundw
   case rel => exact ⟨k + 1, by omega, .inl (by omega), by go_num, ι (fun j a b hj ha hb => by
    by_cases hjk : j + 1 < k
    ·exact HF2.out j a b hjk ha hb
    obtain rfl : j = m := by have := HMM.out; omega
    rw [HYY.out] at ha
    rw [HMM.out, HXX.out] at hb
    cases ha
    cases hb
    exact of_decide_eq_false HEB.out.symm), B4⟩
   case measure => simp [intOf]; omega
 have HDI := ι (show (regsL l).Pairwise (fun a b => a.name ≠ b.name) from (perm_dist HPM.out).1 (srtR_dist HSR.out (fun j a b ha hb => HF2.out j a b (by have := (List.getElem?_eq_some_iff.1 hb).1; omega) ha hb)))
 have hlt2 : ¬ (k : Int) < (ys.length : Int) := by omega
 clear hlt
 by_cases h9 : 16 < ys.length
 ·have t9 : (16 : Int) < (ys.length : Int) := by omega
  have H9 := ι h9
  clear h9
  have H3 := ι (show ¬ ConfOk l d from fun h => absurd h.rlen (by have := H9.out; have := HPM.out.length_eq; omega))
  go_wp2_with fail
  go_ret
  exact ⟨⟨_, rfl, ⟨fun h => absurd h (by decide), fun h => absurd h H3.out⟩⟩, BW2.out⟩
 have t9 : ¬ (16 : Int) < (ys.length : Int) := by omega
 have H9 := ι (show (regsL l).length ≤ 16 by have := HPM.out.length_eq; omega)
 clear h9
 go_wp2_with fail
 go_ret
 exact ⟨⟨0, rfl, ⟨fun _ => ⟨HL0.out, H16.out, HAD.out, HDI.out, H9.out⟩, fun _ => rfl⟩⟩, BW2.out⟩
def fndD (nm : List UInt8) : Nat → List Rd → Int
 | _, [] => -1
 | k, x :: t => if x.reel = nm then (k : Int) else fndD nm (k + 1) t
theorem fndD_drop {nm : List UInt8} {l : List Rd} {k : Nat} {x : Rd} (hk : l[k]? = some x) : fndD nm k (l.drop k) = if x.reel = nm then (k : Int) else fndD nm (k + 1) (l.drop (k + 1)) := by
 rw [List.drop_eq_getElem_cons (List.getElem?_eq_some_iff.1 hk).1, (List.getElem?_eq_some_iff.1 hk).2]
 rfl
abbrev rdA (x : Rd) (r e c : Value) : Value := .agg #[.string (sB x.reel), .string (sB x.doc.title), .string (sB x.doc.lang), .int .u8 x.doc.rate, .bool x.doc.drop, .int .i64 x.doc.last, r, e, c]
theorem cfl_any (g : Nat) (x : Rd) (rA eA cA : Option Addr) (r1 r2 e1 e2 c1 c2 : Nat) (nm : List UInt8) (w : World) (hg : w.cell? ⟨g, 1, none⟩ = some (.string (sB nm))) {b : Bool} (hb : b = decide (x.reel = nm)) :
  Calls Tryz.prog 31 #[rdA x (.slice rA r1 r2) (.slice eA e1 e2) (.slice cA c1 c2), .pointer (some ⟨g, 0, none⟩)] w fun e w' => e = .returned (.bool b) ∧ Below w.heap.size w w' := by
 have hgl := World.block_lt_of_cell? w _ hg
 have hne : g ≠ w.heap.size := Nat.ne_of_lt hgl
 have t1 : ((sB x.reel).toList == (sB nm).toList) = b := by rw [str_eq, hb]
 clear hb
 go_enter Tryz.func31, Tryz.ntmps31
 go_wp2_with fail
 go_ret
 exact ⟨by first | rfl | rw [t1], Below.more' _ _⟩
theorem cfi_any (g : Nat) (v : Value) (L : List Rd) (nm : List UInt8) (w : World) (h : RdsAt w v L) (hg : w.cell? ⟨g, 1, none⟩ = some (.string (sB nm))) (hl : L.length ≤ 2000000) :
  Calls Tryz.prog 30 #[v, .func (.func 31) #[] #[.pointer (some ⟨g, 0, none⟩)]] w fun e w' => e = .returned (.int .i64 (fndD nm 0 L)) ∧ Below w.heap.size w w' := by
 obtain ⟨A, c, rfl⟩ := h.form
 have H := ι h
 have HG := ι hg
 have hgl := World.block_lt_of_cell? w _ hg
 clear h hg
 go_enter Tryz.func30, Tryz.ntmps30
 go_wp2_with fail
 go_loopw [8] (fun i wr => ∃ k : Nat, k ≤ L.length ∧ i = .int .i64 k ∧ Hid (fndD nm k (L.drop k) = fndD nm 0 L) ∧ Hid (Below w.heap.size w wr)) (fun i _ => L.length - (intOf i).toNat)
 case atStart => exact ⟨0, by omega, rfl, ι rfl, ι (Below.refl _ _)⟩
 case round =>
 obtain ⟨k, hk, rfl, HK, G⟩ := hrel
 have hDw : w.heap.size ≤ wr.heap.size := G.out.size
 by_cases hlt : k < L.length
 ·have hlt2 : (k : Int) < (L.length : Int) := by omega
  obtain ⟨x, hx⟩ : ∃ x, L[k]? = some x := ⟨_, List.getElem?_eq_getElem hlt⟩
  have HD := ι (fndD_drop (nm := nm) hx)
  obtain ⟨b, o, r, e, q, rfl, ⟨q0, q1, q2, q3, q4, q5, q6, q7, q8⟩, hd⟩ := RdsAt.get2 H.out G.out hx
  obtain ⟨rA, rc, rfl⟩ := hd.regs.form
  obtain ⟨eA, ec, rfl⟩ := hd.evs.form
  obtain ⟨sA, sc, rfl⟩ := hd.cms.form
  have hcg := ι ((G.out.cell (p := ⟨g, 1, none⟩) hgl).trans HG.out)
  clear hx hd
  by_cases hf : x.reel = nm
  ·have HF := ι (cfl_any g x rA eA sA x.doc.regs.length rc x.doc.evs.length ec x.doc.cms.length sc nm wr hcg.out (b := true) (decide_eq_true hf).symm)
   have HF2 := ι (show fndD nm 0 L = (k : Int) by rw [← HK.out, HD.out, if_pos hf])
   unfold rdA at HF
   clear hf
   go_wp2_with fail
   refine HF.out.mono ?_
   rintro e w2 ⟨rfl, hb⟩
   have G2 := ι (G.out.trans (hb.mono hDw))
   clear hb q0 q1 q2 q3 q4 q5 q6 q7 q8
   go_wp2_with fail
   go_ret
   exact ⟨by rw [HF2.out]; rfl, G2.out⟩
  have HF := ι (cfl_any g x rA eA sA x.doc.regs.length rc x.doc.evs.length ec x.doc.cms.length sc nm wr hcg.out (b := false) (decide_eq_false hf).symm)
  have HF2 := ι (show fndD nm (k + 1) (L.drop (k + 1)) = fndD nm 0 L by rw [← HK.out, HD.out, if_neg hf])
  unfold rdA at HF
  clear hf
  go_wp2_with fail
  refine HF.out.mono ?_
  rintro e w2 ⟨rfl, hb⟩
  have G2 := ι (G.out.trans (hb.mono hDw))
  clear hb q0 q1 q2 q3 q4 q5 q6 q7 q8
  go_wp2_with fail
  go_roundw
  case rel => exact ⟨k + 1, by omega, by go_num, HF2, G2⟩
  case measure => simp [intOf]; omega
 obtain rfl : k = L.length := by omega
 have HF2 := ι (show fndD nm 0 L = -1 by rw [← HK.out, List.drop_length]; rfl)
 clear hlt
 go_wp2_with fail
 go_ret
 exact ⟨by rw [HF2.out]; rfl, G.out⟩
end Go.Proofs.YtmopjhbfobmklaaGreatDoor
