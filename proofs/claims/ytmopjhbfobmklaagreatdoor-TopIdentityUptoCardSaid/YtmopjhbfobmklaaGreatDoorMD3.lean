/-
  The contract of comments of documents. Its conditions are its hypotheses.
-/
import Derived.Test.YtmopjhbfobmklaaGreatDoorMCd
set_option maxRecDepth 100000
set_option maxHeartbeats 40000000
namespace Go.Proofs.YtmopjhbfobmklaaGreatDoor
open Go.RowKit Go.Joins
set_option linter.unusedVariables false
set_option linter.unusedSimpArgs false
def cmN (d : Dc) (F : Int → Option Int) (p : Option Cm) (c : Cm) : Int :=
 if c.id < 1 ∨ d.last < c.id then 2 else if (match p with | some y => decide (c.id ≤ y.id) | none => false) = true then 8 else if (F c.id).isSome = true then 7 else if anE d c F ≠ 0 then anE d c F
 else if nmB c.au = false then 5 else if valV (sB c.text) = false then 10 else if c.text = [] then 4 else if 400 < c.text.length then 9 else 0
def cmL (d : Dc) (F : Int → Option Int) : Option Cm → List Cm → Int
 | _, [] => 0
 | p, x :: t => if cmN d F p x = 0 then cmL d F (some x) t else cmN d F p x
def cmsE (d : Dc) (F : Int → Option Int) : Int := if 64 < d.cms.length then 9 else cmL d F none d.cms
theorem cmL_nil (d : Dc) (F : Int → Option Int) (p : Option Cm) : cmL d F p [] = 0 := by cases p <;> rfl
theorem cmL_drop {d : Dc} {F : Int → Option Int} {l : List Cm} {k : Nat} {x : Cm} (hk : l[k]? = some x) : cmL d F (prv l k) (l.drop k) = if cmN d F (prv l k) x = 0 then cmL d F (prv l (k + 1)) (l.drop (k + 1)) else cmN d F (prv l k) x := by
 rw [List.drop_eq_getElem_cons (List.getElem?_eq_some_iff.1 hk).1, (List.getElem?_eq_some_iff.1 hk).2, prv_succ hk]
 rfl
def CmOk (c : Cm) : Prop := (-9223372036854775808 ≤ c.id ∧ c.id ≤ 9223372036854775807) ∧ c.text.length ≤ 2000000
def PhiCmY (X G g2 o2 m k n' c' : Nat) (id : Int) (y : Cm) (pk le : Bool) : Nat → Value → Prop
 | 41, v => v = .int .i64 (k : Int)
 | 42, v => v = .bool (pk)
 | 43, v => v = .bool (pk)
 | 44, v => (pk = true → v = .pointer (some ⟨X, 0, none⟩)) ∧ (¬ (pk = true) → v = undef)
 | 45, v => (pk = true → v = .int .i64 id) ∧ (¬ (pk = true) → v = undef)
 | 46, v => (pk = true → v = .pointer (some ⟨G, 7, none⟩)) ∧ (¬ (pk = true) → v = undef)
 | 47, v => (pk = true → v = .slice (some ⟨g2, o2, none⟩) n' c') ∧ (¬ (pk = true) → v = undef)
 | 48, v => (pk = true → v = .int .i64 (k : Int)) ∧ (¬ (pk = true) → v = undef)
 | 49, v => (pk = true → v = .int .i64 (m : Int)) ∧ (¬ (pk = true) → v = undef)
 | 50, v => (pk = true → v = .pointer (some ⟨g2, o2 + m * 8, none⟩)) ∧ (¬ (pk = true) → v = undef)
 | 51, v => (pk = true → v = .pointer (some ⟨g2, o2 + m * 8, none⟩)) ∧ (¬ (pk = true) → v = undef)
 | 52, v => (pk = true → v = .int .i64 y.id) ∧ (¬ (pk = true) → v = undef)
 | 53, v => (pk = true → v = .bool (le)) ∧ (¬ (pk = true) → v = undef)
 | 54, v => v = .bool (pk && le)
 | 40, v => v = .bool (pk && le)
 | _, _ => True
def PhiCm (X G g2 o2 m k n' c' : Nat) (id : Int) (y : Cm) (pk le : Bool) (sl : Nat) (v : Value) (w : World) : Prop := PhiCmY X G g2 o2 m k n' c' id y pk le sl v
theorem comments_any (d : Dc) (r e c : Value) (b n : Nat) (F : Int → Option Int) (w : World) (he : EvsAt w e d.evs) (hel : d.evs.length ≤ 2000000) (hc : CmsAt w c d.cms) (hcl : d.cms.length ≤ 2000000) (hco : ∀ x ∈ d.cms, CmOk x) (hm : MapI w b n F) (hF : Knows d F) (hlast : d.last ≤ 1099511627776) (hw : Wt w) :
  Calls Tryz.prog 47 #[d.v r e c, .map (some b)] w fun e' w' => e' = .returned (.int .i64 (cmsE d F)) ∧ Below w.heap.size w w' := by
 have HW := ι hw
 have HM := ι hm
 have HK := ι hF
 have HEV := ι he
 have HCM := ι hc
 have HCO := ι hco
 obtain ⟨A, c', rfl⟩ := hc.form
 clear hw hm hF he hc hco
 obtain ⟨G, hG⟩ : ∃ G, G = w.heap.size := ⟨_, rfl⟩
 rw [show d.v r e (.slice A d.cms.length c') = .agg #[.string (sB d.title), .string (sB d.lang), .int .u8 d.rate, .bool d.drop, .int .i64 d.last, r, e, .slice A d.cms.length c'] from rfl]
 by_cases h64 : 64 < d.cms.length
 ·have HE := ι (show cmsE d F = 9 by unfold cmsE; rw [if_pos h64])
  have t0 : (64 : Int) < (d.cms.length : Int) := by omega
  clear h64
  go_enter Tryz.func47, Tryz.ntmps47
  go_wp2_with fail
  go_ret
  exact ⟨by rw [HE.out]; rfl, Below.more' _ _⟩
 have HE := ι (show cmsE d F = cmL d F none d.cms by unfold cmsE; rw [if_neg h64])
 have t0 : ¬ (64 : Int) < (d.cms.length : Int) := by omega
 clear h64
 go_enter Tryz.func47, Tryz.ntmps47
 go_wp2_with fail
 rw [← hG]
 generalize hw1 : World.alloc _ _ = w1
 have F1 := ι (show Held w1 G (d.cs r e (.slice A d.cms.length c')) by subst hw1; exact Held.new hG)
 have B1 := ι (show Below w.heap.size w w1 by subst hw1; exact Below.more' _ _)
 have hG1 : G < w1.heap.size := F1.out.lt
 clear hw1 hG t0
 go_loopw [17] (fun i wr => ∃ k : Nat, k ≤ d.cms.length ∧ i = .int .i64 k ∧ Hid (cmL d F (prv d.cms k) (d.cms.drop k) = cmL d F none d.cms) ∧ Hid (Below w1.heap.size w1 wr)) (fun i _ => d.cms.length - (intOf i).toNat)
 case atStart => exact ⟨0, Nat.zero_le _, rfl, ι rfl, ι (Below.refl _ _)⟩
 case round =>
 obtain ⟨k, hk, rfl, HF, BR⟩ := hrel
 have BW := ι (B1.out.trans (BR.out.mono B1.out.size))
 have FR := ι (F1.out.below BR.out hG1)
 by_cases hlt : k < d.cms.length
 ·have hlt2 : (k : Int) < (d.cms.length : Int) := by omega
  obtain ⟨x, hx⟩ : ∃ x, d.cms[k]? = some x := ⟨_, List.getElem?_eq_getElem hlt⟩
  have HR := ι (HCM.out.ext (Flat.stays _) BW.out)
  obtain ⟨id, ev, fr, tt, au, text, don, los⟩ := x
  have HD := ι (cmL_drop (d := d) (F := F) hx)
  obtain ⟨g, o, rfl, q0, q1, q2, q3, q4, q5, q6, q7⟩ := CmsAt.get HR.out hx
  dsimp only at q0 q1 q2 q3 q4 q5 q6 q7
  obtain ⟨m, y, hmk, hy⟩ : ∃ m y, (0 < k → m + 1 = k) ∧ d.cms[m]? = some y := by
   by_cases h0 : 0 < k
   ·exact ⟨k - 1, _, fun _ => by omega, List.getElem?_eq_getElem (by omega)⟩
   exact ⟨k, _, fun h => absurd h h0, hx⟩
  have HY0 := ι hy
  have hml : m < d.cms.length := (List.getElem?_eq_some_iff.1 hy).1
  obtain ⟨hid, htx⟩ := HCO.out _ (List.mem_of_getElem? hx)
  dsimp only at hid htx
  have hgr : g < wr.heap.size := World.block_lt_of_cell? wr _ q0
  obtain ⟨pk, hpk⟩ : ∃ b, b = decide (0 < k) := ⟨_, rfl⟩
  obtain ⟨le, hle⟩ : ∃ b, b = decide (id ≤ y.id) := ⟨_, rfl⟩
  obtain ⟨tk, htk⟩ : ∃ b, b = (F id).isSome := ⟨_, rfl⟩
  obtain ⟨nm, hnm⟩ : ∃ b, b = nmB au := ⟨_, rfl⟩
  obtain ⟨vt, hvt⟩ : ∃ b, b = valV (sB text) := ⟨_, rfl⟩
  obtain ⟨q, hq⟩ : ∃ q, q = anE d ⟨id, ev, fr, tt, au, text, don, los⟩ F := ⟨_, rfl⟩
  have HN := ι (show cmN d F (prv d.cms k) ⟨id, ev, fr, tt, au, text, don, los⟩ = if id < 1 ∨ d.last < id then 2 else if (pk && le) = true then 8 else if tk = true then 7 else if q ≠ 0 then q else if nm = false then 5 else if vt = false then 10 else if text = [] then 4 else if 400 < text.length then 9 else 0 by
   have e : (match prv d.cms k with | some y => decide (id ≤ y.id) | none => false) = (pk && le) := by
    by_cases h0 : 0 < k
    ·have e : prv d.cms k = some y := by
      unfold prv
      rw [if_neg (by omega), show k - 1 = m by have := hmk h0; omega]
      exact hy
     rw [e, hpk, show decide (0 < k) = true by simpa using h0, Bool.true_and, hle]
    have e : prv d.cms k = none := by
     unfold prv
     rw [if_pos (by omega)]
    rw [e, hpk, show decide (0 < k) = false by simpa using h0, Bool.false_and]
   unfold cmN
   dsimp only
   rw [e, ← htk, ← hq, ← hnm, ← hvt])
  have HP := ι (And.intro hpk (And.intro hle (And.intro hmk hml)))
  have HL := ι (show ∀ W, Below w.heap.size w W → (Instr.lookup 114 (.map (some b)) (.int .i64 id) true).run Tryz.prog W = .ok (.tuple #[.int .i64 (elO (F id)), .bool tk]) W from fun W hW => by rw [htk]; exact (HM.out.ext hW).look true hid)
  have HNM := ι (fun W => show Calls Tryz.prog 52 #[.string (sB au)] W fun e w' => e = .returned (.bool nm) ∧ W = w' from by rw [hnm]; exact name_any (sB au) W)
  have HV := ι (fun W (hb : Below w.heap.size w W) => hvt ▸ valid_text (sB text) W (by rw [sB_size]; omega) (HW.out.on hb))
  have HAN := ι (show ∀ W, Below w.heap.size w W → Calls Tryz.prog 88 #[d.v r e (.slice (some ⟨g, o, none⟩) d.cms.length c'), (Cm.mk id ev fr tt au text don los).v, .map (some b)] W fun e' w' => e' = .returned (.int .i64 q) ∧ Below W.heap.size W w' from fun W hW => by
   rw [hq]
   exact anch_any d r e _ _ b n F W (HEV.out.ext EvC.stays hW) hel (HM.out.ext hW) HK.out hlast (HW.out.on hW))
  rw [show d.v r e (.slice (some ⟨g, o, none⟩) d.cms.length c') = .agg #[.string (sB d.title), .string (sB d.lang), .int .u8 d.rate, .bool d.drop, .int .i64 d.last, r, e, .slice (some ⟨g, o, none⟩) d.cms.length c'] from rfl, show (Cm.mk id ev fr tt au text don los).v = .agg #[.int .i64 id, .int .i64 ev, .int .i64 fr, .int .i64 tt, .string (sB au), .string (sB text), .bool don, .bool los] from rfl] at HAN
  have hsz : (sB text).size = text.length := sB_size _
  clear hx hy hpk hle htk hnm hvt hq hmk hml hid htx
  have hlk := HL.out (wr.alloc (.cells #[.int .i64 id, .int .i64 ev, .int .i64 fr, .int .i64 tt, .string (sB au), .string (sB text), .bool don, .bool los] 137 (0, 0))) (BW.out.trans ((Below.more' _ _).mono BW.out.size))
  have fq := FR.out.cell
  have hGr : G < wr.heap.size := FR.out.lt
  unfold Dc.cs at fq
  have HI := ι (And.intro hk hlt)
  by_cases h1 : id < 1
  ·have t1 : decide (id < 1) = true := by simpa using h1
   have H3 := ι (show 2 = cmL d F none d.cms by
    have e : cmN d F (prv d.cms k) ⟨id, ev, fr, tt, au, text, don, los⟩ = 2 := by rw [HN.out, if_pos (.inl h1)]
    rw [← HF.out, HD.out, e, if_neg (by decide)])
   go_wp2_with fail
   go_ret
   exact ⟨by rw [HE.out, ← H3.out]; rfl, BW.out.trans ((Below.more' _ _).mono BW.out.size)⟩
  by_cases h2 : d.last < id
  ·have t1 : decide (id < 1) = false := by simpa using h1
   have t2 : decide (d.last < id) = true := by simpa using h2
   have H3 := ι (show 2 = cmL d F none d.cms by
    have e : cmN d F (prv d.cms k) ⟨id, ev, fr, tt, au, text, don, los⟩ = 2 := by rw [HN.out, if_pos (.inr h2)]
    rw [← HF.out, HD.out, e, if_neg (by decide)])
   go_wp2_with fail
   go_ret
   exact ⟨by rw [HE.out, ← H3.out]; rfl, BW.out.trans ((Below.more' _ _).mono BW.out.size)⟩
  have t1 : decide (id < 1) = false := by simpa using h1
  have t2 : decide (d.last < id) = false := by simpa using h2
  have HN1 := ι (show cmN d F (prv d.cms k) ⟨id, ev, fr, tt, au, text, don, los⟩ = if (pk && le) = true then 8 else if tk = true then 7 else if q ≠ 0 then q else if nm = false then 5 else if vt = false then 10 else if text = [] then 4 else if 400 < text.length then 9 else 0 by rw [HN.out, if_neg (by omega)])
  clear h1 h2 HN
  go_wp2_with fail
  clear t1 t2 fq hlk
  generalize hw2 : World.alloc _ _ = w2
  obtain ⟨X, hX⟩ : ∃ X, X = wr.heap.size := ⟨_, rfl⟩
  rw [← hX]
  have FX := ι (show Held w2 X (Cm.cs ⟨id, ev, fr, tt, au, text, don, los⟩) by subst hw2; exact Held.new hX)
  have B2 := ι (show Below wr.heap.size wr w2 by subst hw2; exact Below.more' _ _)
  clear hw2 hX q0 q1 q2 q3 q4 q5 q6 q7
  obtain ⟨N, hN⟩ : ∃ N, N = w2.heap.size := ⟨_, rfl⟩
  have hXN : X < N := by have := FX.out.lt; omega
  have FG := ι (FR.out.ext B2.out)
  have hGN : G < N := by have := FG.out.lt; omega
  obtain ⟨g2, o2, eg, y0', _⟩ := CmsAt.get (HR.out.ext (Flat.stays _) B2.out) HY0.out
  obtain ⟨rfl, rfl⟩ : g2 = g ∧ o2 = o := by
   injection eg with e
   injection e with e1 e2
   exact ⟨e1.symm, e2.symm⟩
  clear eg
  have hgN : g2 < N := by have h : g2 < w2.heap.size := World.block_lt_of_cell? w2 _ y0'; omega
  have HSZ := ι (show ∀ W, Below N w2 W → N ≤ W.heap.size from fun W hW => by have := hW.size; omega)
  have GN := ι (show wr.heap.size ≤ N by have := B2.out.size; omega)
  clear hN
  have e0 : w2.cell? ⟨X, 0, none⟩ = some (.int .i64 id) := FX.out.cell 0
  have d7 : w2.cell? ⟨G, 7, none⟩ = some (.slice (some ⟨g2, o2, none⟩) d.cms.length c') := FG.out.cell 7
  have hpk1 : decide ((0 : Int) < (k : Int)) = pk := by rw [HP.out.1]; simp
  have hpk2 : decide (0 < k) = pk := HP.out.1.symm
  have hle := HP.out.2.1.symm
  have m4 : (m : Int) < (d.cms.length : Int) := by have := HP.out.2.2.2; omega
  have m4' : m < d.cms.length := HP.out.2.2.2
  have m3 : pk = true → IntKind.i64.wrap ((k : Int) - 1) = (m : Int) := fun h => by
   have := HP.out.2.2.1 (of_decide_eq_true (HP.out.1.symm.trans h))
   rw [IntKind.wrap_i64]
   omega
  refine wp_region_spec (by kernel_rfl) (fun w' => Below N w2 w') (PhiCm X G g2 o2 m k d.cms.length c' id y pk le) 84 rfl (by kernel_rfl) (Below.refl _ _).drew ?hops ?hend
  case hops =>
   refine ⟨?o0, ?o1, ?o2, ?o3, ?o4, ?o5, ?o6, ?o7, ?o8, ?o9, ?o10, ?o11, ?o12, ?o13, ?o14, trivial⟩
   case o0 =>
    intro ev w8 hI δ φ
    have a5 : ev 5 = .int .i64 (k : Int) := φ 5 (by kernel_rfl)
    clear δ φ
    try dsimp only
    simp [OpRuns, execOp, evalOf, a5, go_sem]
    exact ⟨hI, rfl⟩
   case o1 =>
    intro ev w8 hI δ φ
    have a41 : ev 41 = .int .i64 (k : Int) := δ 0 41 (by kernel_rfl) rfl
    clear δ φ
    try dsimp only
    simp [OpRuns, execOp, evalOf, a41, go_sem]
    exact ⟨hI, congrArg Value.bool hpk2⟩
   case o2 =>
    intro ev w8 hI δ φ
    have a42 : ev 42 = .bool (pk) := δ 1 42 (by kernel_rfl) rfl
    clear δ φ
    try dsimp only
    simp [OpRuns, execOp, evalOf, a42, go_sem]
    exact ⟨hI, rfl⟩
   case o3 =>
    intro ev w8 hI δ φ
    have ag : ev 43 = .bool pk := δ 2 43 (by kernel_rfl) rfl
    refine γ ag rfl (fun hR => ?_) fun hn d hd => by cases hd; exact ⟨fun hr => absurd hr hn, fun _ => rfl⟩
    clear ag
    have a6 : ev 6 = .pointer (some ⟨X, 0, none⟩) := φ 6 (by kernel_rfl)
    clear δ φ
    try dsimp only
    simp [OpRuns, execOp, evalOf, a6, go_sem]
    exact ⟨hI, ⟨fun _ => rfl, fun h => absurd hR h⟩⟩
   case o4 =>
    intro ev w8 hI δ φ
    have ag : ev 43 = .bool pk := δ 2 43 (by kernel_rfl) rfl
    refine γ ag rfl (fun hR => ?_) fun hn d hd => by cases hd; exact ⟨fun hr => absurd hr hn, fun _ => rfl⟩
    clear ag
    have a44 : ev 44 = .pointer (some ⟨X, 0, none⟩) := (δ 3 44 (by kernel_rfl) rfl).1 hR
    have y0 : w8.cell? ⟨X, 0, none⟩ = some (.int .i64 id) := (hI.cell (p := ⟨X, 0, none⟩) hXN).trans e0
    clear δ φ
    try dsimp only
    simp [OpRuns, execOp, evalOf, a44, y0, go_sem]
    exact ⟨hI, ⟨fun _ => rfl, fun h => absurd hR h⟩⟩
   case o5 =>
    intro ev w8 hI δ φ
    have ag : ev 43 = .bool pk := δ 2 43 (by kernel_rfl) rfl
    refine γ ag rfl (fun hR => ?_) fun hn d hd => by cases hd; exact ⟨fun hr => absurd hr hn, fun _ => rfl⟩
    clear ag
    have a2 : ev 2 = .pointer (some ⟨G, 0, none⟩) := φ 2 (by kernel_rfl)
    clear δ φ
    try dsimp only
    simp [OpRuns, execOp, evalOf, a2, go_sem]
    exact ⟨hI, ⟨fun _ => rfl, fun h => absurd hR h⟩⟩
   case o6 =>
    intro ev w8 hI δ φ
    have ag : ev 43 = .bool pk := δ 2 43 (by kernel_rfl) rfl
    refine γ ag rfl (fun hR => ?_) fun hn d hd => by cases hd; exact ⟨fun hr => absurd hr hn, fun _ => rfl⟩
    clear ag
    have a46 : ev 46 = .pointer (some ⟨G, 7, none⟩) := (δ 5 46 (by kernel_rfl) rfl).1 hR
    have y0 : w8.cell? ⟨G, 7, none⟩ = some (.slice (some ⟨g2, o2, none⟩) d.cms.length c') := (hI.cell (p := ⟨G, 7, none⟩) hGN).trans d7
    clear δ φ
    try dsimp only
    simp [OpRuns, execOp, evalOf, a46, y0, go_sem]
    exact ⟨hI, ⟨fun _ => rfl, fun h => absurd hR h⟩⟩
   case o7 =>
    intro ev w8 hI δ φ
    have ag : ev 43 = .bool pk := δ 2 43 (by kernel_rfl) rfl
    refine γ ag rfl (fun hR => ?_) fun hn d hd => by cases hd; exact ⟨fun hr => absurd hr hn, fun _ => rfl⟩
    clear ag
    have a5 : ev 5 = .int .i64 (k : Int) := φ 5 (by kernel_rfl)
    clear δ φ
    try dsimp only
    simp [OpRuns, execOp, evalOf, a5, go_sem]
    exact ⟨hI, ⟨fun _ => rfl, fun h => absurd hR h⟩⟩
   case o8 =>
    intro ev w8 hI δ φ
    have ag : ev 43 = .bool pk := δ 2 43 (by kernel_rfl) rfl
    refine γ ag rfl (fun hR => ?_) fun hn d hd => by cases hd; exact ⟨fun hr => absurd hr hn, fun _ => rfl⟩
    clear ag
    have m3' := m3 hR
    have a48 : ev 48 = .int .i64 (k : Int) := (δ 7 48 (by kernel_rfl) rfl).1 hR
    clear δ φ
    try dsimp only
    simp [OpRuns, execOp, evalOf, a48, m3', go_sem]
    exact ⟨hI, ⟨fun _ => rfl, fun h => absurd hR h⟩⟩
   case o9 =>
    intro ev w8 hI δ φ
    have ag : ev 43 = .bool pk := δ 2 43 (by kernel_rfl) rfl
    refine γ ag rfl (fun hR => ?_) fun hn d hd => by cases hd; exact ⟨fun hr => absurd hr hn, fun _ => rfl⟩
    clear ag
    have a47 : ev 47 = .slice (some ⟨g2, o2, none⟩) d.cms.length c' := (δ 6 47 (by kernel_rfl) rfl).1 hR
    have a49 : ev 49 = .int .i64 (m : Int) := (δ 8 49 (by kernel_rfl) rfl).1 hR
    clear δ φ
    try dsimp only
    simp [OpRuns, execOp, evalOf, a47, a49, m4, m4', go_sem]
    exact ⟨hI, ⟨fun _ => rfl, fun h => absurd hR h⟩⟩
   case o10 =>
    intro ev w8 hI δ φ
    have ag : ev 43 = .bool pk := δ 2 43 (by kernel_rfl) rfl
    refine γ ag rfl (fun hR => ?_) fun hn d hd => by cases hd; exact ⟨fun hr => absurd hr hn, fun _ => rfl⟩
    clear ag
    have a50 : ev 50 = .pointer (some ⟨g2, o2 + m * 8, none⟩) := (δ 9 50 (by kernel_rfl) rfl).1 hR
    clear δ φ
    try dsimp only
    simp [OpRuns, execOp, evalOf, a50, go_sem]
    exact ⟨hI, ⟨fun _ => rfl, fun h => absurd hR h⟩⟩
   case o11 =>
    intro ev w8 hI δ φ
    have ag : ev 43 = .bool pk := δ 2 43 (by kernel_rfl) rfl
    refine γ ag rfl (fun hR => ?_) fun hn d hd => by cases hd; exact ⟨fun hr => absurd hr hn, fun _ => rfl⟩
    clear ag
    have a51 : ev 51 = .pointer (some ⟨g2, o2 + m * 8, none⟩) := (δ 10 51 (by kernel_rfl) rfl).1 hR
    have y0 : w8.cell? ⟨g2, o2 + m * 8, none⟩ = some (.int .i64 y.id) := (hI.cell (p := ⟨g2, o2 + m * 8, none⟩) hgN).trans y0'
    clear δ φ
    try dsimp only
    simp [OpRuns, execOp, evalOf, a51, y0, go_sem]
    exact ⟨hI, ⟨fun _ => rfl, fun h => absurd hR h⟩⟩
   case o12 =>
    intro ev w8 hI δ φ
    have ag : ev 43 = .bool pk := δ 2 43 (by kernel_rfl) rfl
    refine γ ag rfl (fun hR => ?_) fun hn d hd => by cases hd; exact ⟨fun hr => absurd hr hn, fun _ => rfl⟩
    clear ag
    have a45 : ev 45 = .int .i64 id := (δ 4 45 (by kernel_rfl) rfl).1 hR
    have a52 : ev 52 = .int .i64 y.id := (δ 11 52 (by kernel_rfl) rfl).1 hR
    clear δ φ
    try dsimp only
    simp [OpRuns, execOp, evalOf, a45, a52, go_sem]
    exact ⟨hI, ⟨fun _ => congrArg Value.bool hle, fun h => absurd hR h⟩⟩
   case o13 =>
    intro ev w8 hI δ φ
    have a43 : ev 43 = .bool (pk) := δ 2 43 (by kernel_rfl) rfl
    have ax : pk = true → ev 53 = .bool (le) := fun hc => (δ 12 53 (by kernel_rfl) rfl).1 hc
    clear δ φ
    obtain ⟨cc, hcc⟩ : ∃ cc, cc = pk := ⟨_, rfl⟩
    rw [← hcc] at a43
    cases cc with
    | true =>
     have ax := ax hcc.symm
     have hv : (Value.bool (le)) = (Value.bool (pk && le)) := by rw [← hcc]; simp
     clear hcc
     try dsimp only
     simp [OpRuns, execOp, evalOf, a43, ax, go_sem]
     exact ⟨hI, hv⟩
    | false =>
     clear ax
     have hv : Value.bool false = (Value.bool (pk && le)) := by rw [← hcc]; simp
     clear hcc
     try dsimp only
     simp [OpRuns, execOp, evalOf, a43, go_sem]
     exact ⟨hI, hv⟩
   case o14 =>
   intro ev w8 hI δ φ
   have a54 : ev 54 = .bool (pk && le) := δ 13 54 (by kernel_rfl) rfl
   clear δ φ
   try dsimp only
   simp [OpRuns, execOp, evalOf, a54, go_sem]
   exact ⟨hI, rfl⟩
  case hend =>
  intro a w6 hdf hsz hI hPhi κ
  replace hdf : a.defers = [] := hdf
  replace hsz : a.tmps.size = 84 := hsz
  have x40 : a.tmps.getD 40 undef = .bool (pk && le) := hPhi 14 40 (by kernel_rfl)
  have x0 : a.tmps.getD 0 undef = Value.agg #[Value.string (sB d.title), Value.string (sB d.lang), Value.int IntKind.u8 d.rate, Value.bool d.drop, Value.int IntKind.i64 d.last, r, e, Value.slice (some { block := g2, off := o2 }) d.cms.length c'] := κa κ 0 rfl
  have x1 : a.tmps.getD 1 undef = Value.map (some b) := κa κ 1 rfl
  have x2 : a.tmps.getD 2 undef = Value.pointer (some { block := G, off := 0 }) := κa κ 2 rfl
  have x3 : a.tmps.getD 3 undef = undef := κa κ 3 rfl
  have x4 : a.tmps.getD 4 undef = u4 := κa κ 4 rfl
  have x5 : a.tmps.getD 5 undef = Value.int IntKind.i64 (↑k : Int) := κa κ 5 rfl
  have x6 : a.tmps.getD 6 undef = Value.pointer (some { block := X, off := 0 }) := κa κ 6 rfl
  have x7 : a.tmps.getD 7 undef = Value.int IntKind.i64 (elO (F id)) := κa κ 7 rfl
  have x8 : a.tmps.getD 8 undef = Value.bool tk := κa κ 8 rfl
  have x9 : a.tmps.getD 9 undef = u9 := κa κ 9 rfl
  have x10 : a.tmps.getD 10 undef = Value.pointer (some { block := G, off := 7 }) := κa κ 10 rfl
  have x11 : a.tmps.getD 11 undef = Value.slice (some { block := g2, off := o2 }) d.cms.length c' := κa κ 11 rfl
  have x12 : a.tmps.getD 12 undef = Value.int IntKind.i64 (↑d.cms.length : Int) := κa κ 12 rfl
  have x13 : a.tmps.getD 13 undef = Value.bool false := κa κ 13 rfl
  have x14 : a.tmps.getD 14 undef = Value.pointer (some { block := G, off := 7 }) := κa κ 14 rfl
  have x15 : a.tmps.getD 15 undef = Value.slice (some { block := g2, off := o2 }) d.cms.length c' := κa κ 15 rfl
  have x16 : a.tmps.getD 16 undef = Value.int IntKind.i64 (↑d.cms.length : Int) := κa κ 16 rfl
  have x17 : a.tmps.getD 17 undef = Value.int IntKind.i64 (↑k : Int) := κa κ 17 rfl
  have x18 : a.tmps.getD 18 undef = Value.bool true := κa κ 18 rfl
  have x19 : a.tmps.getD 19 undef = Value.int IntKind.i64 (↑k : Int) := κa κ 19 rfl
  have x20 : a.tmps.getD 20 undef = Value.pointer (some { block := g2, off := o2 + k * 8 }) := κa κ 20 rfl
  have x21 : a.tmps.getD 21 undef = Value.agg #[Value.int IntKind.i64 id, Value.int IntKind.i64 ev, Value.int IntKind.i64 fr, Value.int IntKind.i64 tt, Value.string (sB au), Value.string (sB text), Value.bool don, Value.bool los] := κa κ 21 rfl
  have x22 : a.tmps.getD 22 undef = Value.tuple #[Value.int IntKind.i64 (elO (F id)), Value.bool tk] := κa κ 22 rfl
  have x23 : a.tmps.getD 23 undef = Value.map (some b) := κa κ 23 rfl
  have x24 : a.tmps.getD 24 undef = Value.pointer (some { block := X, off := 0 }) := κa κ 24 rfl
  have x25 : a.tmps.getD 25 undef = Value.int IntKind.i64 id := κa κ 25 rfl
  have x26 : a.tmps.getD 26 undef = Value.tuple #[Value.int IntKind.i64 (elO (F id)), Value.bool tk] := κa κ 26 rfl
  have x27 : a.tmps.getD 27 undef = Value.int IntKind.i64 (elO (F id)) := κa κ 27 rfl
  have x28 : a.tmps.getD 28 undef = Value.bool tk := κa κ 28 rfl
  have x29 : a.tmps.getD 29 undef = Value.bool false := κa κ 29 rfl
  have x30 : a.tmps.getD 30 undef = Value.pointer (some { block := X, off := 0 }) := κa κ 30 rfl
  have x31 : a.tmps.getD 31 undef = Value.int IntKind.i64 id := κa κ 31 rfl
  have x32 : a.tmps.getD 32 undef = Value.bool false := κa κ 32 rfl
  have x33 : a.tmps.getD 33 undef = Value.bool false := κa κ 33 rfl
  have x34 : a.tmps.getD 34 undef = Value.pointer (some { block := X, off := 0 }) := κa κ 34 rfl
  have x35 : a.tmps.getD 35 undef = Value.int IntKind.i64 id := κa κ 35 rfl
  have x36 : a.tmps.getD 36 undef = Value.pointer (some { block := G, off := 4 }) := κa κ 36 rfl
  have x37 : a.tmps.getD 37 undef = Value.int IntKind.i64 d.last := κa κ 37 rfl
  have x38 : a.tmps.getD 38 undef = Value.bool false := κa κ 38 rfl
  have x39 : a.tmps.getD 39 undef = Value.bool false := κa κ 39 rfl
  have x55 : a.tmps.getD 55 undef = u55 := κa κ 55 rfl
  have x56 : a.tmps.getD 56 undef = u56 := κa κ 56 rfl
  have x57 : a.tmps.getD 57 undef = u57 := κa κ 57 rfl
  have x58 : a.tmps.getD 58 undef = u58 := κa κ 58 rfl
  have x59 : a.tmps.getD 59 undef = u59 := κa κ 59 rfl
  have x60 : a.tmps.getD 60 undef = u60 := κa κ 60 rfl
  have x61 : a.tmps.getD 61 undef = u61 := κa κ 61 rfl
  have x62 : a.tmps.getD 62 undef = u62 := κa κ 62 rfl
  have x63 : a.tmps.getD 63 undef = u63 := κa κ 63 rfl
  have x64 : a.tmps.getD 64 undef = u64 := κa κ 64 rfl
  have x65 : a.tmps.getD 65 undef = u65 := κa κ 65 rfl
  have x66 : a.tmps.getD 66 undef = u66 := κa κ 66 rfl
  have x67 : a.tmps.getD 67 undef = u67 := κa κ 67 rfl
  have x68 : a.tmps.getD 68 undef = u68 := κa κ 68 rfl
  have x69 : a.tmps.getD 69 undef = u69 := κa κ 69 rfl
  have x70 : a.tmps.getD 70 undef = u70 := κa κ 70 rfl
  have x71 : a.tmps.getD 71 undef = u71 := κa κ 71 rfl
  have x72 : a.tmps.getD 72 undef = u72 := κa κ 72 rfl
  have x73 : a.tmps.getD 73 undef = u73 := κa κ 73 rfl
  have x74 : a.tmps.getD 74 undef = u74 := κa κ 74 rfl
  have x75 : a.tmps.getD 75 undef = u75 := κa κ 75 rfl
  have x76 : a.tmps.getD 76 undef = u76 := κa κ 76 rfl
  have x77 : a.tmps.getD 77 undef = u77 := κa κ 77 rfl
  have x78 : a.tmps.getD 78 undef = u78 := κa κ 78 rfl
  have x79 : a.tmps.getD 79 undef = u79 := κa κ 79 rfl
  have x80 : a.tmps.getD 80 undef = u80 := κa κ 80 rfl
  have x81 : a.tmps.getD 81 undef = u81 := κa κ 81 rfl
  have x82 : a.tmps.getD 82 undef = u82 := κa κ 82 rfl
  have x83 : a.tmps.getD 83 undef = u83 := κa κ 83 rfl
  have ea := act_lit hsz hdf
  simp only [getDs] at ea
  rw [x40, x0, x1, x2, x3, x4, x5, x6, x7, x8, x9, x10, x11, x12, x13, x14, x15, x16, x17, x18, x19, x20, x21, x22, x23, x24, x25, x26, x27, x28, x29, x30, x31, x32, x33, x34, x35, x36, x37, x38, x39, x55, x56, x57, x58, x59, x60, x61, x62, x63, x64, x65, x66, x67, x68, x69, x70, x71, x72, x73, x74, x75, x76, x77, x78, x79, x80, x81, x82, x83] at ea
  rw [ea]
  clear ea x40 x0 x1 x2 x3 x4 x5 x6 x7 x8 x9 x10 x11 x12 x13 x14 x15 x16 x17 x18 x19 x20 x21 x22 x23 x24 x25 x26 x27 x28 x29 x30 x31 x32 x33 x34 x35 x36 x37 x38 x39 x55 x56 x57 x58 x59 x60 x61 x62 x63 x64 x65 x66 x67 x68 x69 x70 x71 x72 x73 x74 x75 x76 x77 x78 x79 x80 x81 x82 x83 hPhi κ hdf hsz
  generalize a.tmps.getD 41 undef = u41, a.tmps.getD 42 undef = u42, a.tmps.getD 43 undef = u43, a.tmps.getD 44 undef = u44, a.tmps.getD 45 undef = u45, a.tmps.getD 46 undef = u46, a.tmps.getD 47 undef = u47, a.tmps.getD 48 undef = u48, a.tmps.getD 49 undef = u49, a.tmps.getD 50 undef = u50, a.tmps.getD 51 undef = u51, a.tmps.getD 52 undef = u52, a.tmps.getD 53 undef = u53, a.tmps.getD 54 undef = u54
  clear a
  clear hpk1 hpk2 hle m4 m4' m3 e0 d7 y0'
  have B6 := ι (show Below wr.heap.size wr w6 from B2.out.trans (hI.mono GN.out))
  have F6 := ι (FX.out.below hI hXN)
  have G6 := ι (FG.out.below hI hGN)
  have BWW := ι (show Below w.heap.size w w6 from BW.out.trans (B6.out.mono BW.out.size))
  clear hI HSZ FX FG B2
  cases hr : (pk && le) with
  | true =>
   have H3 := ι (show 8 = cmL d F none d.cms by
    have e : cmN d F (prv d.cms k) ⟨id, ev, fr, tt, au, text, don, los⟩ = 8 := by rw [HN1.out, if_pos hr]
    rw [← HF.out, HD.out, e, if_neg (by decide)])
   go_wp2_with fail
   go_ret
   exact ⟨by rw [HE.out, ← H3.out]; rfl, BWW.out⟩
  | false =>
  have HN2 := ι (show cmN d F (prv d.cms k) ⟨id, ev, fr, tt, au, text, don, los⟩ = if tk = true then 7 else if q ≠ 0 then q else if nm = false then 5 else if vt = false then 10 else if text = [] then 4 else if 400 < text.length then 9 else 0 by rw [HN1.out, if_neg (by rw [hr]; decide)])
  clear hr HN1
  cases tk with
  | true =>
   have H3 := ι (show 7 = cmL d F none d.cms by
    have e : cmN d F (prv d.cms k) ⟨id, ev, fr, tt, au, text, don, los⟩ = 7 := by rw [HN2.out, if_pos rfl]
    rw [← HF.out, HD.out, e, if_neg (by decide)])
   go_wp2_with fail
   go_ret
   exact ⟨by rw [HE.out, ← H3.out]; rfl, BWW.out⟩
  | false =>
  have HN3 := ι (show cmN d F (prv d.cms k) ⟨id, ev, fr, tt, au, text, don, los⟩ = if q ≠ 0 then q else if nm = false then 5 else if vt = false then 10 else if text = [] then 4 else if 400 < text.length then 9 else 0 by rw [HN2.out, if_neg (by decide)])
  clear HN2
  have fq := F6.out.cell
  have gq := G6.out.cell
  have hX6 := F6.out.lt
  have hG6 := G6.out.lt
  unfold Dc.cs at gq
  unfold Cm.cs at fq
  go_wp2_with fail
  refine (HAN.out w6 BWW.out).mono ?_
  rintro e' w7 ⟨rfl, hb⟩
  have B7 := ι (B6.out.trans (hb.mono B6.out.size))
  have F7 := ι (F6.out.ext hb)
  have BW7 := ι (show Below w.heap.size w w7 from BW.out.trans (B7.out.mono BW.out.size))
  clear hb fq gq F6 G6 B6
  have fq := F7.out.cell
  have hX7 := F7.out.lt
  unfold Cm.cs at fq
  by_cases hq0 : q = 0
  ·have HN4 := ι (show cmN d F (prv d.cms k) ⟨id, ev, fr, tt, au, text, don, los⟩ = if nm = false then 5 else if vt = false then 10 else if text = [] then 4 else if 400 < text.length then 9 else 0 by rw [HN3.out, if_neg (by rw [hq0]; simp)])
   subst hq0
   clear HN3
   cases nm with
   | false =>
    have H3 := ι (show 5 = cmL d F none d.cms by
     have e : cmN d F (prv d.cms k) ⟨id, ev, fr, tt, au, text, don, los⟩ = 5 := by rw [HN4.out, if_pos rfl]
     rw [← HF.out, HD.out, e, if_neg (by decide)])
    go_wp2_with (go_at_call 52; refine (HNM.out _).mono ?_; rintro e w1 ⟨rfl, rfl⟩)
    go_ret
    exact ⟨by rw [HE.out, ← H3.out]; rfl, BW7.out⟩
   | true =>
   go_wp2_with (go_at_call 52; refine (HNM.out _).mono ?_; rintro e w1 ⟨rfl, rfl⟩)
   refine (HV.out w7 BW7.out).mono ?_
   rintro e' w8 ⟨rfl, hb⟩
   have B8 := ι (B7.out.trans (hb.mono B7.out.size))
   have F8 := ι (F7.out.ext hb)
   have BW8 := ι (show Below w.heap.size w w8 from BW.out.trans (B8.out.mono BW.out.size))
   clear hb fq F7 B7
   have fq := F8.out.cell
   have hX8 := F8.out.lt
   unfold Cm.cs at fq
   cases vt with
   | false =>
    have H3 := ι (show 10 = cmL d F none d.cms by
     have e : cmN d F (prv d.cms k) ⟨id, ev, fr, tt, au, text, don, los⟩ = 10 := by rw [HN4.out, if_neg (by decide), if_pos rfl]
     rw [← HF.out, HD.out, e, if_neg (by decide)])
    go_wp2_with fail
    go_ret
    exact ⟨by rw [HE.out, ← H3.out]; rfl, BW8.out⟩
   | true =>
   by_cases ht0 : text = []
   ·have t0 : (sB text).toList.isEmpty = true := by rw [str_emp, ht0]; rfl
    have H3 := ι (show 4 = cmL d F none d.cms by
     have e : cmN d F (prv d.cms k) ⟨id, ev, fr, tt, au, text, don, los⟩ = 4 := by rw [HN4.out, if_neg (by decide), if_neg (by decide), if_pos ht0]
     rw [← HF.out, HD.out, e, if_neg (by decide)])
    clear ht0
    go_wp2_with fail
    go_ret
    exact ⟨by rw [HE.out, ← H3.out]; rfl, BW8.out⟩
   have t0 : (sB text).toList.isEmpty = false := by
    rw [str_emp]
    revert ht0
    cases text with
    | nil => exact fun h => absurd rfl h
    | cons _ _ => exact fun _ => rfl
   by_cases h4 : 400 < text.length
   ·have t4 : (400 : Int) < (text.length : Int) := by omega
    have H3 := ι (show 9 = cmL d F none d.cms by
     have e : cmN d F (prv d.cms k) ⟨id, ev, fr, tt, au, text, don, los⟩ = 9 := by rw [HN4.out, if_neg (by decide), if_neg (by decide), if_neg ht0, if_pos h4]
     rw [← HF.out, HD.out, e, if_neg (by decide)])
    clear ht0 h4
    go_wp2_with fail
    go_ret
    exact ⟨by rw [HE.out, ← H3.out]; rfl, BW8.out⟩
   have t4 : ¬ (400 : Int) < (text.length : Int) := by omega
   have H3 := ι (show cmL d F (prv d.cms (k + 1)) (d.cms.drop (k + 1)) = cmL d F none d.cms by
    have e : cmN d F (prv d.cms k) ⟨id, ev, fr, tt, au, text, don, los⟩ = 0 := by rw [HN4.out, if_neg (by decide), if_neg (by decide), if_neg ht0, if_neg h4]
    rw [← HF.out, HD.out, if_pos e])
   clear ht0 h4
   go_wp2_with fail
   go_roundw
   case rel => exact ⟨k + 1, by have := HI.out.2; omega, by go_num, H3, ι (BR.out.trans (B8.out.mono BR.out.size))⟩
   case measure => simp [intOf]; omega
  have t0 : (q != 0) = true := by simpa using hq0
  have H3 := ι (show q = cmL d F none d.cms by
   have e : cmN d F (prv d.cms k) ⟨id, ev, fr, tt, au, text, don, los⟩ = q := by rw [HN3.out, if_pos hq0]
   rw [← HF.out, HD.out, e, if_neg hq0])
  clear hq0
  go_wp2_with fail
  go_ret
  exact ⟨by rw [HE.out, ← H3.out]; rfl, BW7.out⟩
 obtain rfl : k = d.cms.length := by omega
 have H3 := ι (show 0 = cmL d F none d.cms by rw [← HF.out, List.drop_length, cmL_nil])
 clear hlt HF
 go_wp2_with fail
 go_ret
 exact ⟨by rw [HE.out, ← H3.out]; rfl, BW.out⟩
end Go.Proofs.YtmopjhbfobmklaaGreatDoor
