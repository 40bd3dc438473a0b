/-
  The edit list that plays all unchanged; fewer; the span of a document. The conditions of the contracts are their hypotheses.
-/
import Derived.Test.YtmopjhbfobmklaaGreatDoorMH4
import Derived.Test.YtmopjhbfobmklaaGreatDoorMP4
import Derived.Test.YtmopjhbfobmklaaGreatDoorMHc
set_option maxRecDepth 100000
set_option maxHeartbeats 40000000
namespace Go.Proofs.YtmopjhbfobmklaaGreatDoor
open Go.RowKit Go.Joins
set_option linter.unusedVariables false
set_option linter.unusedSimpArgs false
def idL (r : Int) (dr : Bool) (nm : List UInt8) (n : Int) : Lst := ⟨[], r, dr, [⟨1, nm, 0, 0, n, 1, 1⟩]⟩
def lst0 : Lst := ⟨[], 0, false, []⟩
def IdeP (r : Int) (dr : Bool) (nm : List UInt8) (n : Int) (w : World) (e : Ending) (w' : World) : Prop := (∃ l c, e = .returned (.tuple #[Lst.v l c, .int .i64 (lstE (idL r dr nm n))]) ∧ CutsAt w' c l.cuts ∧ (lstE (idL r dr nm n) = 0 → l = idL r dr nm n)) ∧ Below w.heap.size w w'
theorem cuts_one {w : World} {g : Nat} {x : Ct} (h : Held w g x.cs) : CutsAt w (.slice (some ⟨g, 0, none⟩) 1 1) [x] := by
 refine ⟨some ⟨g, 0, none⟩, 1, rfl, Nat.le_refl _, by decide, fun k y hy => ?_⟩
 cases k with
 | zero =>
  cases hy
  refine ⟨g, 0, _, rfl, rfl, fun j u hu => ?_, rfl⟩
  rw [Nat.zero_mul, Nat.add_zero, Nat.zero_add, h.cell]
  exact hu
 | succ k => cases hy
theorem ident_any (r : Int) (dr : Bool) (nm : List UInt8) (n : Int) (w : World) (h0 : 0 ≤ r) (h1 : r ≤ 255) (hw : Wt w) :
  Calls Tryz.prog 21 #[.int .u8 r, .bool dr, .string (sB nm), .int .i64 n] w (IdeP r dr nm n w) := by
 have HO := ι (show LsOk (idL r dr nm n) from ⟨by simp [idL], ⟨h0, h1⟩, by simp [idL], fun x hx => by rcases List.mem_singleton.1 hx with rfl; show (-9223372036854775808 ≤ (1 : Int) ∧ (1 : Int) ≤ 9223372036854775807) ∧ -9223372036854775808 ≤ (1 : Int) ∧ (1 : Int) ≤ 9223372036854775807; decide⟩)
 have HW := ι hw
 obtain ⟨Q, hQ⟩ : ∃ Q, Q = lstE (idL r dr nm n) := ⟨_, rfl⟩
 unfold IdeP
 rw [← hQ]
 have HQ := ι hQ
 clear hw h0 h1 hQ
 obtain ⟨D, hD⟩ : ∃ D, D = w.heap.size := ⟨_, rfl⟩
 go_enter Tryz.func21, Tryz.ntmps21
 go_wp2_with fail
 rw [← hD]
 generalize hw1 : World.alloc (World.alloc (World.alloc w _) _) _ = w1
 have R1 := ι (show Held w1 D (lst0.cs (.slice none 0 0)) by subst hw1; exact ((Held.new hD).alloc _).alloc _)
 have C1 := ι (show Held w1 (D + 1) ((⟨1, nm, 0, 0, n, 1, 1⟩ : Ct).cs) by subst hw1; exact (Held.new (by simp [hD])).alloc _)
 have L1 := ι (show Held w1 (D + 2) ((idL r dr nm n).cs (.slice (some ⟨D + 1, 0, none⟩) 1 1)) by subst hw1; exact Held.new (by simp [hD]))
 have B1 := ι (show Below w.heap.size w w1 by subst hw1; exact ((Below.more' _ _).alloc (by simp) _).alloc (by simp; omega) _)
 have HD := ι hD
 clear hw1 hD
 refine (show Calls Tryz.prog 36 #[(idL r dr nm n).v (.slice (some ⟨D + 1, 0, none⟩) 1 1)] w1 _ from lcheck_any (idL r dr nm n) _ w1 (cuts_one C1.out) HO.out (HW.out.on B1.out)).mono ?_
 rintro e w2 ⟨rfl, hb⟩
 rw [← HQ.out]
 have R2 := ι (R1.out.ext hb)
 have C2 := ι (C1.out.ext hb)
 have L2 := ι (L1.out.ext hb)
 have B2 := ι (B1.out.trans (hb.mono B1.out.size))
 clear hb R1 C1 L1 B1
 have q := R2.out.cell
 have y := R2.out.free
 unfold lst0 Lst.cs at q
 have hL2 : D + 2 < w2.heap.size := L2.out.lt
 by_cases h0 : Q = 0
 ·subst h0
  have q2 := L2.out.cell
  unfold idL Lst.cs at q2
  go_wp2_with (with_reducible refine stop_at ?_)
  unfold StopAt
  clear q y q2
  generalize hw3 : World.setCell _ _ _ = w3
  have H3 := ι (show Held w3 D ((idL r dr nm n).cs (.slice (some ⟨D + 1, 0, none⟩) 1 1)) by subst hw3; exact R2.out.all ((idL r dr nm n).cs (.slice (some ⟨D + 1, 0, none⟩) 1 1)) rfl)
  have C3 := ι (show Held w3 (D + 1) ((⟨1, nm, 0, 0, n, 1, 1⟩ : Ct).cs) by subst hw3; exact C2.out.far (by omega) ((idL r dr nm n).cs (.slice (some ⟨D + 1, 0, none⟩) 1 1)) 0)
  have B3 := ι (show Below w.heap.size w w3 by subst hw3; exact Below.all (by have := HD.out; omega) ((idL r dr nm n).cs (.slice (some ⟨D + 1, 0, none⟩) 1 1)) 0 B2.out)
  have fr := H3.out.cell
  unfold idL Lst.cs at fr
  refine bodyPost_ret (by simp [results, Tryz.results21, fr, go_sem]; try rfl) rfl ?_
  exact ⟨⟨idL r dr nm n, .slice (some ⟨D + 1, 0, none⟩) 1 1, rfl, cuts_one C3.out, by first | exact fun _ => rfl | rfl⟩, B3.out⟩
 have t0 : (Q != 0) = true := by simpa using h0
 have HN := ι h0
 clear h0
 go_wp2_with (with_reducible refine stop_at ?_)
 unfold StopAt
 clear q y
 generalize hw3 : World.setCell _ _ _ = w3
 have H3 := ι (show Held w3 D (lst0.cs (.slice none 0 0)) by subst hw3; exact R2.out.all (lst0.cs (.slice none 0 0)) rfl)
 have B3 := ι (show Below w.heap.size w w3 by subst hw3; exact Below.all (by have := HD.out; omega) (lst0.cs (.slice none 0 0)) 0 B2.out)
 have fr := H3.out.cell
 unfold lst0 Lst.cs at fr
 refine bodyPost_ret (by simp [results, Tryz.results21, fr, go_sem]; try rfl) rfl ?_
 exact ⟨⟨lst0, .slice none 0 0, rfl, SeqAt.nil _ _ _, fun h => absurd h HN.out⟩, B3.out⟩
def pcsL (nm : List UInt8) (l : List Ct) : List Pc := l.flatMap fun c => if c.reel = nm then [pcOf c] else []
def pcsG (d : Lst) (nm : List UInt8) : List Pc × Int := if lstE d = 0 then (pcsL nm d.cuts, 0) else ([], lstE d)
theorem pcs_step {nm : List UInt8} {l : List Ct} {k : Nat} {x : Ct} (hk : l[k]? = some x) : pcsL nm (l.take (k + 1)) = pcsL nm (l.take k) ++ (if x.reel = nm then [pcOf x] else []) := by
 unfold pcsL
 rw [List.take_add_one, hk, List.flatMap_append]
 simp
theorem pcs_len (nm : List UInt8) : ∀ l : List Ct, (pcsL nm l).length ≤ l.length
 | [] => Nat.le_refl _
 | x :: t => by
  have := pcs_len nm t
  unfold pcsL at *
  rw [List.flatMap_cons, List.length_append, List.length_cons]
  have h1 : (if x.reel = nm then [pcOf x] else []).length ≤ 1 := by split <;> simp
  omega
theorem infoPc : (Tryz.prog.info? 120).map (fun i => (i.zero, i.size, i.bytes)) = some (some (.agg #[.int .i64 0, .int .i64 0, .int .i64 0, .int .i64 0, .int .i64 0]), 5, 40) := by kernel_rfl
def PcsP (r : List Pc × Int) (w : World) (e : Ending) (w' : World) : Prop := (∃ A c, e = .returned (.tuple #[.slice A r.1.length c, .int .i64 r.2]) ∧ PcAt w' A r.1) ∧ Below w.heap.size w w'
theorem pieces_any (d : Lst) (c : Value) (nm : List UInt8) (w : World) (hd : CutsAt w c d.cuts) (ho : LsOk d) (hw : Wt w) :
  Calls Tryz.prog 22 #[d.v c, .string (sB nm)] w (PcsP (pcsG d nm) w) := by
 have HW := ι hw
 have HC := ι hd
 have HO := ι ho
 have hl := ho.cutl
 obtain ⟨A, cp, rfl⟩ := hd.form
 have HK := ι (fun W (hb : Below w.heap.size w W) => lcheck_any d _ W (HC.out.ext (Flat.stays _) hb) HO.out (HW.out.on hb))
 clear hw hd ho
 rw [show d.v (.slice A d.cuts.length cp) = .agg #[.string (sB d.title), .int .u8 d.rate, .bool d.drop, .slice A d.cuts.length cp] from rfl] at HK ⊢
 obtain ⟨G, hG⟩ : ∃ G, G = w.heap.size := ⟨_, rfl⟩
 obtain ⟨L, hL⟩ : ∃ L, L = lstE d := ⟨_, rfl⟩
 have HA := ι (show pcsG d nm = if L = 0 then (pcsL nm d.cuts, 0) else ([], L) by rw [hL]; rfl)
 have HL := ι (fun (h : L = 0) => (lst_ok (hL.symm.trans h)).2)
 rw [← hL] at HK
 obtain ⟨R, hR⟩ : ∃ R, R = pcsG d nm := ⟨_, rfl⟩
 rw [← hR] at HA ⊢
 clear hL hR
 obtain ⟨i0, hi, hz0, hz1, hz2⟩ := info_parts infoPc
 have HI0 := ι (And.intro hi (And.intro hz0 (And.intro hz1 hz2)))
 clear hi hz0 hz1 hz2
 unfold PcsP
 go_enter Tryz.func22, Tryz.ntmps22
 go_wp2_with fail
 rw [← hG]
 generalize hw1 : World.alloc w _ = w1
 have F1 := ι (show Held w1 G (d.cs (.slice A d.cuts.length cp)) by subst hw1; exact Held.new hG)
 have B1 := ι (show Below G w w1 by subst hw1; rw [hG]; exact Below.more' _ _)
 have HGe := ι hG
 clear hw1 hG
 refine (HK.out w1 (HGe.out ▸ B1.out)).mono ?_
 rintro e w2 ⟨rfl, hb⟩
 have hG1 : G < w1.heap.size := F1.out.lt
 have B2 := ι (B1.out.trans (hb.mono (Nat.le_of_lt hG1)))
 have F2 := ι (F1.out.ext hb)
 clear hb F1 B1 HK hG1
 have fq := F2.out.cell
 have hG2 := F2.out.lt
 unfold Lst.cs at fq
 by_cases h0 : L = 0
 ·subst h0
  have HA2 := ι (show R = (pcsL nm d.cuts, 0) by rw [HA.out, if_pos rfl])
  have hl64 := HL.out rfl
  clear HA HL
  go_wp2_with fail
  clear fq
  obtain ⟨E, hE⟩ : ∃ E, E = w2.heap.size := ⟨_, rfl⟩
  have HE := ι hE
  have hGE : G < E := by omega
  clear hE
  go_loopw [7, 18] (fun ov i wr => ∃ (k : Nat) (uv : Value), uv = ov ∧ k ≤ d.cuts.length ∧ i = .int .i64 k ∧ Hid (wr.ownsRow E 120 5 uv (pcsL nm (d.cuts.take k)).length ((pcsL nm (d.cuts.take k)).flatMap pcV)) ∧ Hid (Below E w2 wr)) (fun _ i _ => d.cuts.length - (intOf i).toNat)
  case atStart => exact ⟨0, _, rfl, Nat.zero_le _, rfl, ι (World.ownsRow_nil _ _ _ _), ι (Below.refl _ _)⟩
  case round =>
  obtain ⟨k, uv, rfl, hk, rfl, HOW, BR⟩ := hrel
  have hEw : E ≤ wr.heap.size := by have := BR.out.size; have := HE.out; omega
  have BW := ι (show Below G w wr from B2.out.trans (BR.out.mono (Nat.le_of_lt hGE)))
  by_cases hlt : k < d.cuts.length
  ·have hlt2 : (k : Int) < (d.cuts.length : Int) := by omega
   obtain ⟨x, hx⟩ : ∃ x, d.cuts[k]? = some x := ⟨_, List.getElem?_eq_getElem hlt⟩
   have HST := ι (pcs_step (nm := nm) hx)
   obtain ⟨b, o, rfl, q0, q1, q2, q3, q4, q5, q6⟩ := CutsAt.get (HC.out.ext (Flat.stays _) (HGe.out ▸ BW.out)) hx
   have hbr : b < wr.heap.size := World.block_lt_of_cell? wr _ q0
   have hml : (pcsL nm (d.cuts.take k)).length ≤ 64 := by have := pcs_len nm (d.cuts.take k); rw [List.length_take] at this; omega
   generalize pcsL nm (d.cuts.take k) = M at *
   clear hx
   by_cases hn : x.reel = nm
   ·have HST2 := ι (show pcsL nm (d.cuts.take (k + 1)) = M ++ [pcOf x] by rw [HST.out, if_pos hn])
    have t1 : ((sB x.reel).toList == (sB nm).toList) = true := by rw [str_eq]; simpa using hn
    clear hn HST
    go_wp2_with (at_builtin; go_loud (refine wpList_append_own _ rfl _ _ 76 rfl E 120 i0 (.agg #[.int .i64 0, .int .i64 0, .int .i64 0, .int .i64 0, .int .i64 0]) 5 40 Tryz.underlying76 HI0.out.1 HI0.out.2.1 HI0.out.2.2.1 HI0.out.2.2.2 rfl (by decide) _ M.length (M.flatMap pcV) rfl (own_ext (own_ext HOW.out (Below.more' _ _)) (Below.more' _ _)) ⟨wr.heap.size + 1, 0, none⟩ 1 1 (pcV (pcOf x)) rfl rfl (CellsAt.all (by simp [CellsAt, go_sem, pcV, pcOf])) (by simp [Value.oneCell', pcV]) (by simp only [maxLen]; omega) (by omega) (by simp; omega) ?_))
    intro v5 w5 ho5 hgr5 _
    have O5 := ι (show w5.ownsRow E 120 5 v5 (pcsL nm (d.cuts.take (k + 1))).length ((pcsL nm (d.cuts.take (k + 1))).flatMap pcV) by
     rw [HST2.out, List.length_append, List.flatMap_append]
     simpa using ho5)
    have B5 := ι (show Below E w2 w5 from ((BR.out.alloc hEw _).alloc (by simp; omega) _).grown hgr5 (by simp; omega) (own_base HOW.out))
    clear ho5 hgr5 HOW BR q0 q1 q2 q3 q4 q5 q6
    go_wp2_with fail
    go_roundw
    case rel => exact ⟨k + 1, _, rfl, by omega, by go_num, O5, B5⟩
    case measure => simp [intOf]; omega
   have HST2 := ι (show pcsL nm (d.cuts.take (k + 1)) = M by rw [HST.out, if_neg hn, List.append_nil])
   have t1 : ((sB x.reel).toList == (sB nm).toList) = false := by rw [str_eq]; simpa using hn
   clear hn HST
   go_wp2_with fail
   go_roundw
   case rel => exact ⟨k + 1, _, rfl, by omega, by go_num, by rw [HST2.out]; exact ι (own_ext HOW.out (Below.more' _ _)), ι (BR.out.alloc hEw _)⟩
   case measure => simp [intOf]; omega
  obtain rfl : k = d.cuts.length := by omega
  rw [List.take_length] at HOW
  obtain ⟨A3, c3, e3, hr3, _⟩ := row_of_ownK HOW.out
  subst e3
  have HR3 := ι hr3
  clear hlt HOW hr3
  go_wp2_with fail
  go_ret2
  rw [HA2.out]
  exact ⟨⟨A3, c3, rfl, HR3.out⟩, HGe.out ▸ BW.out⟩
 have HA2 := ι (show R = ([], L) by rw [HA.out, if_neg h0])
 have t0 : (L != 0) = true := by simpa using h0
 clear HA HL h0
 go_wp2_with fail
 go_ret2
 rw [HA2.out]
 exact ⟨⟨none, 0, rfl, RowAt.nil _ _⟩, HGe.out ▸ B2.out⟩
def fewD (d : Dc) : Dc := ⟨d.title, d.lang, d.rate, d.drop, d.last, d.regs.take 8, d.evs.take 5, d.cms.take 5⟩
theorem SeqAt.takeN {α : Type} {w : World} {sz : Nat} {R : World → List Value → α → Prop} {A : Option Addr} {n c : Nat} {xs : List α} (h : SeqAt w sz R (.slice A n c) xs) (m : Nat) : SeqAt w sz R (.slice A (min n m) c) (xs.take m) := by
 obtain ⟨A', c', h1, h2, h3, h4⟩ := h
 injection h1 with e1 e2 e3
 subst e1; subst e2; subst e3
 refine ⟨A, c, by rw [List.length_take, Nat.min_comm], by rw [List.length_take]; omega, h3, fun k x hx => ?_⟩
 have hk : k < m := by
  have := (List.getElem?_eq_some_iff.1 hx).1
  rw [List.length_take] at this
  omega
 rw [List.getElem?_take_of_lt hk] at hx
 exact h4 k x hx
def PhiFw (D nE nR nK c c1 c2 : Nat) (A A1 A2 : Option Addr) : Nat → Value → Prop
 | 3, v => v = .pointer (some ⟨D, 6, none⟩)
 | 4, v => v = .slice A nE c
 | 5, v => v = .pointer (some ⟨D, 6, none⟩)
 | 6, v => v = .slice A nE c
 | 7, v => v = .int .i64 (nE : Nat)
 | 8, v => v = .int .i64 (min nE 5 : Nat)
 | 9, v => v = .slice A (min nE 5) c
 | 10, v => v = .pointer (some ⟨D, 7, none⟩)
 | 11, v => v = .slice A2 nK c2
 | 12, v => v = .pointer (some ⟨D, 7, none⟩)
 | 13, v => v = .slice A2 nK c2
 | 14, v => v = .int .i64 (nK : Nat)
 | 15, v => v = .int .i64 (min nK 5 : Nat)
 | 16, v => v = .slice A2 (min nK 5) c2
 | 17, v => v = .pointer (some ⟨D, 5, none⟩)
 | 18, v => v = .slice A1 nR c1
 | 19, v => v = .pointer (some ⟨D, 5, none⟩)
 | 20, v => v = .slice A1 nR c1
 | 21, v => v = .int .i64 (nR : Nat)
 | 22, v => v = .int .i64 (min nR 8 : Nat)
 | 23, v => v = .slice A1 (min nR 8) c1
 | 24, v => v = .pointer (some ⟨D, 6, none⟩)
 | 25, v => v = .pointer (some ⟨D, 7, none⟩)
 | 26, v => v = .pointer (some ⟨D, 5, none⟩)
 | _, _ => True
def fewC (d : Dc) (A A1 A2 : Option Addr) (nE nR nK c c1 c2 : Nat) (s t : Bool) : List Value := d.cs (.slice A1 nR c1) (.slice A (cond s (min nE 5) nE) c) (.slice A2 (cond t (min nK 5) nK) c2)
def fewJ (D : Nat) (w1 : World) (zs : List Value) (C : Bool → Bool → List Value) (listed : Array Bool) (w : World) : Prop := Held w D (C (listed.getD 22 false) (listed.getD 24 false)) ∧ Below D w1 w ∧ Held w (D + 1) zs
section
variable {P : Program} {l : List Oper} {f0 : Nat → Value} {D : Nat} {w1 : World} {zs : List Value} {C : Bool → Bool → List Value} {Φ : Nat → Value → Prop} {i : Nat} {o : Oper}
theorem fewJ.set {listed : Array Bool} {w : World} (h : fewJ D w1 zs C listed w) (h1 : i ≠ 22) (h2 : i ≠ 24) : fewJ D w1 zs C (listed.setIfInBounds i true) w := by
 unfold fewJ
 rw [getD_set_ne false h1, getD_set_ne false h2]
 exact h
theorem fewJ.quiet (hg : o.guard = none) (h1 : i ≠ 22) (h2 : i ≠ 24) (h : ∀ (ev : Nat → Value) (w : World), (∀ j d, depB l i j = true → dstOf l j = some d → Φ d (ev d)) → (∀ s, freeB l i s = true → ev s = f0 s) →
  OpRuns P (evalOf ev) o w fun v w' => w' = w ∧ ∀ d, o.dst = some d → Φ d v) : OpOkJ P l f0 (fewJ D w1 zs C) (fun s v _ => Φ s v) i o := by
 intro ev w listed hJ hsz hun hcl δ φ
 rw [hg]
 dsimp only
 exact OpRuns.mono (h ev w δ φ) fun v w' ⟨e, h4⟩ => ⟨by rw [e]; exact hJ.set h1 h2, fun _ _ _ _ _ h => h, h4⟩
theorem fewJ.read (hg : o.guard = none) (d1 : depB l 22 i = true) (d2 : depB l 24 i = true) (h1 : i ≠ 22) (h2 : i ≠ 24) (h : ∀ (ev : Nat → Value) (w : World), Held w D (C false false) → (∀ j d, depB l i j = true → dstOf l j = some d → Φ d (ev d)) → (∀ s, freeB l i s = true → ev s = f0 s) →
  OpRuns P (evalOf ev) o w fun v w' => w' = w ∧ ∀ d, o.dst = some d → Φ d v) : OpOkJ P l f0 (fewJ D w1 zs C) (fun s v _ => Φ s v) i o := by
 intro ev w listed hJ hsz hun hcl δ φ
 rw [hg]
 dsimp only
 have n1 : listed.getD 22 false = false := by
  cases hx : listed.getD 22 false with
  | false => rfl
  | true => rw [hcl 22 i hx d1] at hun; cases hun
 have n2 : listed.getD 24 false = false := by
  cases hx : listed.getD 24 false with
  | false => rfl
  | true => rw [hcl 24 i hx d2] at hun; cases hun
 have h0 := hJ.1
 rw [n1, n2] at h0
 exact OpRuns.mono (h ev w h0 δ φ) fun v w' ⟨e, h4⟩ => ⟨by rw [e]; exact hJ.set h1 h2, fun _ _ _ _ _ h => h, h4⟩
theorem getD_set_eq {listed : Array Bool} (h : i < listed.size) : (listed.setIfInBounds i true).getD i false = true := by simp [h]
theorem fewJ.all {listed : Array Bool} {w : World} (h : fewJ D w1 zs C listed w) (h1 : listed.getD 22 false = true) (h2 : listed.getD 24 false = true) : Held w D (C true true) ∧ Below D w1 w ∧ Held w (D + 1) zs := by
 unfold fewJ at h
 rwa [h1, h2] at h
end
section
variable {l : List Oper} {D : Nat} {w1 w : World} {zs : List Value} {d : Dc} {A A1 A2 : Option Addr} {nE nR nK c c1 c2 : Nat} {listed : Array Bool}
theorem fewJ.stored6 (h : fewJ D w1 zs (fewC d A A1 A2 nE nR nK c c1 c2) listed w) (hl : 26 < listed.size) : fewJ D w1 zs (fewC d A A1 A2 nE nR nK c c1 c2) (listed.setIfInBounds 22 true) (w.setCell ⟨D, 6, none⟩ (.slice A (min nE 5) c)) := by
 unfold fewJ
 rw [getD_set_eq (by omega), getD_set_ne false (by decide)]
 exact ⟨h.1.set 6 _, h.2.1.setCell (Nat.le_refl _) _, h.2.2.other (by omega) _ _⟩
theorem fewJ.stored7 (h : fewJ D w1 zs (fewC d A A1 A2 nE nR nK c c1 c2) listed w) (hl : 26 < listed.size) : fewJ D w1 zs (fewC d A A1 A2 nE nR nK c c1 c2) (listed.setIfInBounds 24 true) (w.setCell ⟨D, 7, none⟩ (.slice A2 (min nK 5) c2)) := by
 unfold fewJ
 rw [getD_set_eq (by omega), getD_set_ne false (by decide)]
 exact ⟨h.1.set 7 _, h.2.1.setCell (Nat.le_refl _) _, h.2.2.other (by omega) _ _⟩
end
theorem fewer_any (d : Dc) (rv ev cv : Value) (w0 w : World) (h : DocAt w0 d rv ev cv) (ho : DcOk d) :
  Calls Tryz.prog 18 #[d.v rv ev cv] w fun e w' => (∃ r q c, e = .returned ((fewD d).v r q c) ∧ DocAt w0 (fewD d) r q c) ∧ Below w.heap.size w w' := by
 obtain ⟨A, c, rfl⟩ := h.evs.form
 obtain ⟨A1, c1, rfl⟩ := h.regs.form
 obtain ⟨A2, c2, rfl⟩ := h.cms.form
 have HE := ι (h.evs.takeN 5)
 have HR := ι (h.regs.takeN 8)
 have HK := ι (h.cms.takeN 5)
 have l1 := (SeqAt.len h.evs).2
 have l2 := (SeqAt.len h.regs).2
 have l3 := (SeqAt.len h.cms).2
 have m1 := ho.evl
 have m2 := ho.regl
 have m3 := ho.cml
 generalize d.evs.length = nE at *
 generalize d.regs.length = nR at *
 generalize d.cms.length = nK at *
 rw [show d.v (.slice A1 nR c1) (.slice A nE c) (.slice A2 nK c2) = .agg #[.string (sB d.title), .string (sB d.lang), .int .u8 d.rate, .bool d.drop, .int .i64 d.last, .slice A1 nR c1, .slice A nE c, .slice A2 nK c2] from rfl]
 clear h ho
 obtain ⟨D, hD⟩ : ∃ D, D = w.heap.size := ⟨_, rfl⟩
 go_enter Tryz.func18, Tryz.ntmps18
 go_wp2_with fail
 rw [← hD]
 generalize hw1 : World.alloc (World.alloc w _) _ = w1
 have F1 := ι (show Held w1 D (d.cs (.slice A1 nR c1) (.slice A nE c) (.slice A2 nK c2)) by subst hw1; exact (Held.new hD).alloc _)
 have R1 := ι (show Held w1 (D + 1) (dc0.cs (.slice none 0 0) (.slice none 0 0) (.slice none 0 0)) by subst hw1; exact Held.new (by simp [hD]))
 have B1 := ι (show Below D w w1 by subst hw1; rw [hD]; exact (Below.more' _ _).alloc (by simp) _)
 have HD := ι hD
 clear hw1 hD
 refine wp_region_seen 26 (by kernel_rfl) (fewJ D w1 (dc0.cs (.slice none 0 0) (.slice none 0 0) (.slice none 0 0)) (fewC d A A1 A2 nE nR nK c c1 c2)) (fun s v _ => PhiFw D nE nR nK c c1 c2 A A1 A2 s v) 28 rfl (by kernel_rfl) (by kernel_rfl) (by kernel_rfl) (by kernel_rfl) (by kernel_rfl) ⟨F1.out, (Below.refl _ _).drew, R1.out⟩ ?hops ?hend
 case hops =>
  refine ⟨?o0, ?o1, ?o2, ?o3, ?o4, ?o5, ?o6, ?o7, ?o8, ?o9, ?o10, ?o11, ?o12, ?o13, ?o14, ?o15, ?o16, ?o17, ?o18, ?o19, ?o20, ?o21, ?o22, ?o23, ?o24, ?o25, trivial⟩
  case o0 =>
   refine fewJ.quiet rfl (by decide) (by decide) ?_
   intro ev w8 δ φ
   have a1 : ev 1 = .pointer (some ⟨D, 0, none⟩) := φ 1 (by kernel_rfl)
   clear δ φ
   try dsimp only
   simp [OpRuns, execOp, evalOf, a1, go_sem]
   first | exact ⟨rfl, rfl⟩ | exact rfl | trace_state
  case o1 =>
   refine fewJ.read rfl (by kernel_rfl) (by kernel_rfl) (by decide) (by decide) ?_
   intro ev w8 hI δ φ
   have a3 : ev 3 = .pointer (some ⟨D, 6, none⟩) := δ 0 3 (by kernel_rfl) rfl
   clear δ φ
   have y : w8.cell? ⟨D, 6, none⟩ = some (.slice A nE c) := hI.cell 6
   try dsimp only
   simp [OpRuns, execOp, evalOf, a3, y, go_sem]
   first | exact ⟨rfl, rfl⟩ | exact rfl | trace_state
  case o2 =>
   refine fewJ.quiet rfl (by decide) (by decide) ?_
   intro ev w8 δ φ
   have a1 : ev 1 = .pointer (some ⟨D, 0, none⟩) := φ 1 (by kernel_rfl)
   clear δ φ
   try dsimp only
   simp [OpRuns, execOp, evalOf, a1, go_sem]
   first | exact ⟨rfl, rfl⟩ | exact rfl | trace_state
  case o3 =>
   refine fewJ.read rfl (by kernel_rfl) (by kernel_rfl) (by decide) (by decide) ?_
   intro ev w8 hI δ φ
   have a5 : ev 5 = .pointer (some ⟨D, 6, none⟩) := δ 2 5 (by kernel_rfl) rfl
   clear δ φ
   have y : w8.cell? ⟨D, 6, none⟩ = some (.slice A nE c) := hI.cell 6
   try dsimp only
   simp [OpRuns, execOp, evalOf, a5, y, go_sem]
   first | exact ⟨rfl, rfl⟩ | exact rfl | trace_state
  case o4 =>
   refine fewJ.quiet rfl (by decide) (by decide) ?_
   intro ev w8 δ φ
   have a6 : ev 6 = .slice A nE c := δ 3 6 (by kernel_rfl) rfl
   clear δ φ
   try dsimp only
   simp [OpRuns, execOp, evalOf, a6, go_sem]
   first | exact ⟨rfl, rfl⟩ | exact rfl | trace_state
  case o5 =>
   refine fewJ.quiet rfl (by decide) (by decide) ?_
   intro ev w8 δ φ
   have a7 : ev 7 = .int .i64 (nE : Nat) := δ 4 7 (by kernel_rfl) rfl
   clear δ φ
   try dsimp only
   simp [OpRuns, execOp, evalOf, a7, go_sem]
   show Value.int _ _ = Value.int _ _; congr 1; omega
  case o6 =>
   refine fewJ.quiet rfl (by decide) (by decide) ?_
   intro ev w8 δ φ
   have a4 : ev 4 = .slice A nE c := δ 1 4 (by kernel_rfl) rfl
   have a8 : ev 8 = .int .i64 (min nE 5 : Nat) := δ 5 8 (by kernel_rfl) rfl
   clear δ φ
   try dsimp only
   have hb : min nE 5 ≤ c := by omega
   simp [OpRuns, execOp, evalOf, a4, a8, hb, go_sem]
   exact rfl
  case o7 =>
   refine fewJ.quiet rfl (by decide) (by decide) ?_
   intro ev w8 δ φ
   have a1 : ev 1 = .pointer (some ⟨D, 0, none⟩) := φ 1 (by kernel_rfl)
   clear δ φ
   try dsimp only
   simp [OpRuns, execOp, evalOf, a1, go_sem]
   first | exact ⟨rfl, rfl⟩ | exact rfl | trace_state
  case o8 =>
   refine fewJ.read rfl (by kernel_rfl) (by kernel_rfl) (by decide) (by decide) ?_
   intro ev w8 hI δ φ
   have a10 : ev 10 = .pointer (some ⟨D, 7, none⟩) := δ 7 10 (by kernel_rfl) rfl
   clear δ φ
   have y : w8.cell? ⟨D, 7, none⟩ = some (.slice A2 nK c2) := hI.cell 7
   try dsimp only
   simp [OpRuns, execOp, evalOf, a10, y, go_sem]
   first | exact ⟨rfl, rfl⟩ | exact rfl | trace_state
  case o9 =>
   refine fewJ.quiet rfl (by decide) (by decide) ?_
   intro ev w8 δ φ
   have a1 : ev 1 = .pointer (some ⟨D, 0, none⟩) := φ 1 (by kernel_rfl)
   clear δ φ
   try dsimp only
   simp [OpRuns, execOp, evalOf, a1, go_sem]
   first | exact ⟨rfl, rfl⟩ | exact rfl | trace_state
  case o10 =>
   refine fewJ.read rfl (by kernel_rfl) (by kernel_rfl) (by decide) (by decide) ?_
   intro ev w8 hI δ φ
   have a12 : ev 12 = .pointer (some ⟨D, 7, none⟩) := δ 9 12 (by kernel_rfl) rfl
   clear δ φ
   have y : w8.cell? ⟨D, 7, none⟩ = some (.slice A2 nK c2) := hI.cell 7
   try dsimp only
   simp [OpRuns, execOp, evalOf, a12, y, go_sem]
   first | exact ⟨rfl, rfl⟩ | exact rfl | trace_state
  case o11 =>
   refine fewJ.quiet rfl (by decide) (by decide) ?_
   intro ev w8 δ φ
   have a13 : ev 13 = .slice A2 nK c2 := δ 10 13 (by kernel_rfl) rfl
   clear δ φ
   try dsimp only
   simp [OpRuns, execOp, evalOf, a13, go_sem]
   first | exact ⟨rfl, rfl⟩ | exact rfl | trace_state
  case o12 =>
   refine fewJ.quiet rfl (by decide) (by decide) ?_
   intro ev w8 δ φ
   have a14 : ev 14 = .int .i64 (nK : Nat) := δ 11 14 (by kernel_rfl) rfl
   clear δ φ
   try dsimp only
   simp [OpRuns, execOp, evalOf, a14, go_sem]
   show Value.int _ _ = Value.int _ _; congr 1; omega
  case o13 =>
   refine fewJ.quiet rfl (by decide) (by decide) ?_
   intro ev w8 δ φ
   have a11 : ev 11 = .slice A2 nK c2 := δ 8 11 (by kernel_rfl) rfl
   have a15 : ev 15 = .int .i64 (min nK 5 : Nat) := δ 12 15 (by kernel_rfl) rfl
   clear δ φ
   try dsimp only
   have hb : min nK 5 ≤ c2 := by omega
   simp [OpRuns, execOp, evalOf, a11, a15, hb, go_sem]
   exact rfl
  case o14 =>
   refine fewJ.quiet rfl (by decide) (by decide) ?_
   intro ev w8 δ φ
   have a1 : ev 1 = .pointer (some ⟨D, 0, none⟩) := φ 1 (by kernel_rfl)
   clear δ φ
   try dsimp only
   simp [OpRuns, execOp, evalOf, a1, go_sem]
   first | exact ⟨rfl, rfl⟩ | exact rfl | trace_state
  case o15 =>
   refine fewJ.read rfl (by kernel_rfl) (by kernel_rfl) (by decide) (by decide) ?_
   intro ev w8 hI δ φ
   have a17 : ev 17 = .pointer (some ⟨D, 5, none⟩) := δ 14 17 (by kernel_rfl) rfl
   clear δ φ
   have y : w8.cell? ⟨D, 5, none⟩ = some (.slice A1 nR c1) := hI.cell 5
   try dsimp only
   simp [OpRuns, execOp, evalOf, a17, y, go_sem]
   first | exact ⟨rfl, rfl⟩ | exact rfl | trace_state
  case o16 =>
   refine fewJ.quiet rfl (by decide) (by decide) ?_
   intro ev w8 δ φ
   have a1 : ev 1 = .pointer (some ⟨D, 0, none⟩) := φ 1 (by kernel_rfl)
   clear δ φ
   try dsimp only
   simp [OpRuns, execOp, evalOf, a1, go_sem]
   first | exact ⟨rfl, rfl⟩ | exact rfl | trace_state
  case o17 =>
   refine fewJ.read rfl (by kernel_rfl) (by kernel_rfl) (by decide) (by decide) ?_
   intro ev w8 hI δ φ
   have a19 : ev 19 = .pointer (some ⟨D, 5, none⟩) := δ 16 19 (by kernel_rfl) rfl
   clear δ φ
   have y : w8.cell? ⟨D, 5, none⟩ = some (.slice A1 nR c1) := hI.cell 5
   try dsimp only
   simp [OpRuns, execOp, evalOf, a19, y, go_sem]
   first | exact ⟨rfl, rfl⟩ | exact rfl | trace_state
  case o18 =>
   refine fewJ.quiet rfl (by decide) (by decide) ?_
   intro ev w8 δ φ
   have a20 : ev 20 = .slice A1 nR c1 := δ 17 20 (by kernel_rfl) rfl
   clear δ φ
   try dsimp only
   simp [OpRuns, execOp, evalOf, a20, go_sem]
   first | exact ⟨rfl, rfl⟩ | exact rfl | trace_state
  case o19 =>
   refine fewJ.quiet rfl (by decide) (by decide) ?_
   intro ev w8 δ φ
   have a21 : ev 21 = .int .i64 (nR : Nat) := δ 18 21 (by kernel_rfl) rfl
   clear δ φ
   try dsimp only
   simp [OpRuns, execOp, evalOf, a21, go_sem]
   show Value.int _ _ = Value.int _ _; congr 1; omega
  case o20 =>
   refine fewJ.quiet rfl (by decide) (by decide) ?_
   intro ev w8 δ φ
   have a18 : ev 18 = .slice A1 nR c1 := δ 15 18 (by kernel_rfl) rfl
   have a22 : ev 22 = .int .i64 (min nR 8 : Nat) := δ 19 22 (by kernel_rfl) rfl
   clear δ φ
   try dsimp only
   have hb : min nR 8 ≤ c1 := by omega
   simp [OpRuns, execOp, evalOf, a18, a22, hb, go_sem]
   exact rfl
  case o21 =>
   refine fewJ.quiet rfl (by decide) (by decide) ?_
   intro ev w8 δ φ
   have a1 : ev 1 = .pointer (some ⟨D, 0, none⟩) := φ 1 (by kernel_rfl)
   clear δ φ
   try dsimp only
   simp [OpRuns, execOp, evalOf, a1, go_sem]
   first | exact ⟨rfl, rfl⟩ | exact rfl | trace_state
  case o22 =>
   intro ev w8 listed hJ hsz hun hcl δ φ
   have a24 : ev 24 = .pointer (some ⟨D, 6, none⟩) := δ 21 24 (by kernel_rfl) rfl
   have a9 : ev 9 = .slice A (min nE 5) c := δ 6 9 (by kernel_rfl) rfl
   clear δ φ
   have y : w8.frozen? ⟨D, 6, none⟩ = false := hJ.1.free 6
   obtain ⟨z, hz⟩ : ∃ z, w8.cell? ⟨D, 6, none⟩ = some z := ⟨_, hJ.1.cell 6⟩
   try dsimp only
   simp [OpRuns, execOp, evalOf, a24, a9, y, hz, go_sem]
   exact fewJ.stored6 hJ (by have : listed.size = 27 := hsz; omega)
  case o23 =>
   refine fewJ.quiet rfl (by decide) (by decide) ?_
   intro ev w8 δ φ
   have a1 : ev 1 = .pointer (some ⟨D, 0, none⟩) := φ 1 (by kernel_rfl)
   clear δ φ
   try dsimp only
   simp [OpRuns, execOp, evalOf, a1, go_sem]
   first | exact ⟨rfl, rfl⟩ | exact rfl | trace_state
  case o24 =>
   intro ev w8 listed hJ hsz hun hcl δ φ
   have a25 : ev 25 = .pointer (some ⟨D, 7, none⟩) := δ 23 25 (by kernel_rfl) rfl
   have a16 : ev 16 = .slice A2 (min nK 5) c2 := δ 13 16 (by kernel_rfl) rfl
   clear δ φ
   have y : w8.frozen? ⟨D, 7, none⟩ = false := hJ.1.free 7
   obtain ⟨z, hz⟩ : ∃ z, w8.cell? ⟨D, 7, none⟩ = some z := ⟨_, hJ.1.cell 7⟩
   try dsimp only
   simp [OpRuns, execOp, evalOf, a25, a16, y, hz, go_sem]
   exact fewJ.stored7 hJ (by have : listed.size = 27 := hsz; omega)
  case o25 =>
  refine fewJ.quiet rfl (by decide) (by decide) ?_
  intro ev w8 δ φ
  have a1 : ev 1 = .pointer (some ⟨D, 0, none⟩) := φ 1 (by kernel_rfl)
  clear δ φ
  try dsimp only
  simp [OpRuns, execOp, evalOf, a1, go_sem]
  first | exact ⟨rfl, rfl⟩ | exact rfl | trace_state
 case hend =>
 intro listed a w8 hall hdf hsz hJ hPhi κ
 have hc8 := fewJ.all hJ (hall 22 (by omega)) (hall 24 (by omega))
 have x26 : a.tmps.getD 26 undef = .pointer (some ⟨D, 5, none⟩) := hPhi 25 26 (by omega) (by kernel_rfl)
 have x23 : a.tmps.getD 23 undef = .slice A1 (min nR 8) c1 := hPhi 20 23 (by omega) (by kernel_rfl)
 have x1 := κO κ 1 (.pointer (some ⟨D, 0, none⟩)) rfl rfl
 have x2 := κO κ 2 (.pointer (some ⟨D + 1, 0, none⟩)) rfl rfl
 replace hdf : a.defers = [] := hdf
 replace hsz : a.tmps.size = 28 := hsz
 have ea := act_lit hsz hdf
 simp only [getDs] at ea
 rw [x1, x2, x23, x26] at ea
 rw [ea]
 clear ea x1 x2 x23 x26 hPhi κ hdf hsz hall hJ
 generalize a.tmps.getD 0 undef = v0
 generalize a.tmps.getD 3 undef = v3
 generalize a.tmps.getD 4 undef = v4
 generalize a.tmps.getD 5 undef = v5
 generalize a.tmps.getD 6 undef = v6
 generalize a.tmps.getD 7 undef = v7
 generalize a.tmps.getD 8 undef = v8
 generalize a.tmps.getD 9 undef = v9
 generalize a.tmps.getD 10 undef = v10
 generalize a.tmps.getD 11 undef = v11
 generalize a.tmps.getD 12 undef = v12
 generalize a.tmps.getD 13 undef = v13
 generalize a.tmps.getD 14 undef = v14
 generalize a.tmps.getD 15 undef = v15
 generalize a.tmps.getD 16 undef = v16
 generalize a.tmps.getD 17 undef = v17
 generalize a.tmps.getD 18 undef = v18
 generalize a.tmps.getD 19 undef = v19
 generalize a.tmps.getD 20 undef = v20
 generalize a.tmps.getD 21 undef = v21
 generalize a.tmps.getD 22 undef = v22
 generalize a.tmps.getD 24 undef = v24
 generalize a.tmps.getD 25 undef = v25
 generalize a.tmps.getD 27 undef = v27
 clear a
 have B8 : Below D w w8 := B1.out.trans hc8.2.1
 have F8 := hc8.1
 unfold fewC at F8
 simp only [cond_true] at F8
 have R8 := hc8.2.2
 have f0 : w8.cell? ⟨D, 0, none⟩ = some (.string (sB d.title)) := F8.cell 0
 have f1 : w8.cell? ⟨D, 1, none⟩ = some (.string (sB d.lang)) := F8.cell 1
 have f2 : w8.cell? ⟨D, 2, none⟩ = some (.int .u8 d.rate) := F8.cell 2
 have f3 : w8.cell? ⟨D, 3, none⟩ = some (.bool d.drop) := F8.cell 3
 have f4 : w8.cell? ⟨D, 4, none⟩ = some (.int .i64 d.last) := F8.cell 4
 have f5 : w8.cell? ⟨D, 5, none⟩ = some (.slice A1 nR c1) := F8.cell 5
 have f6 : w8.cell? ⟨D, 6, none⟩ = some (.slice A (min nE 5) c) := F8.cell 6
 have f7 : w8.cell? ⟨D, 7, none⟩ = some (.slice A2 (min nK 5) c2) := F8.cell 7
 have z5 : w8.frozen? ⟨D, 5, none⟩ = false := F8.free 5
 have fr := R8.cell
 have fy := R8.free
 unfold dc0 Dc.cs at fr
 have hD8 := F8.lt
 have hR8 := R8.lt
 go_wp2_with (with_reducible refine stop_at ?_)
 unfold StopAt
 clear fr fy f0 f1 f2 f3 f4 f5 f6 f7 z5
 generalize hw9 : World.setCell _ _ _ = w9
 have R9 : Held w9 (D + 1) (d.cs (.slice A1 (min nR 8) c1) (.slice A (min nE 5) c) (.slice A2 (min nK 5) c2)) := by
  subst hw9
  exact (R8.other (by omega) 5 (.slice A1 (min nR 8) c1)).all (d.cs (.slice A1 (min nR 8) c1) (.slice A (min nE 5) c) (.slice A2 (min nK 5) c2)) rfl
 have B9 : Below D w w9 := by
  subst hw9
  exact Below.all (by omega) (d.cs (.slice A1 (min nR 8) c1) (.slice A (min nE 5) c) (.slice A2 (min nK 5) c2)) 0 (B8.setCell (p := ⟨D, 5, none⟩) (Nat.le_refl _) _)
 have fr := R9.cell
 unfold Dc.cs at fr
 refine bodyPost_ret (by simp [results, Tryz.results18, fr, go_sem]; try rfl) rfl ?_
 rw [HD.out] at B9
 exact ⟨⟨_, _, _, rfl, HR.out, HE.out, HK.out⟩, B9⟩
def spnW (s : Spn) (x : Ev) : Spn := ⟨min s.i x.i, max s.o x.o⟩
def dspV (E : List Ev) : Spn := match E with
 | [] => ⟨0, 0⟩
 | x :: _ => E.foldl spnW ⟨x.i, x.o⟩
theorem spnW_le : ∀ (E : List Ev) (s : Spn), s.o ≤ (E.foldl spnW s).o ∧ ∀ x ∈ E, x.o ≤ (E.foldl spnW s).o
 | [], s => ⟨Int.le_refl _, fun x hx => by cases hx⟩
 | y :: t, s => by
  obtain ⟨h1, h2⟩ := spnW_le t (spnW s y)
  rw [List.foldl_cons]
  have e1 : s.o ≤ (spnW s y).o := by unfold spnW; simp only []; omega
  have e2 : y.o ≤ (spnW s y).o := by unfold spnW; simp only []; omega
  refine ⟨by omega, fun x hx => ?_⟩
  rcases List.mem_cons.1 hx with rfl | hx
  ·omega
  exact h2 x hx
theorem dspV_in {E : List Ev} {x : Ev} (h : x ∈ E) : x.o ≤ (dspV E).o := by
 cases E with
 | nil => cases h
 | cons y t => exact (spnW_le (y :: t) ⟨y.i, y.o⟩).2 x h
theorem spnW_step {E : List Ev} {k : Nat} {x : Ev} (hk : E[k]? = some x) (s : Spn) : (E.take (k + 1)).foldl spnW s = spnW ((E.take k).foldl spnW s) x := by
 rw [List.take_add_one, hk, Option.toList_some, List.foldl_append]
 rfl
def PhiSp (D X : Nat) (s : Spn) (x : Ev) : Nat → Value → Prop
 | 23, v => v = .pointer (some ⟨D + 2, 0, none⟩)
 | 24, v => v = .int .i64 s.i
 | 25, v => v = .pointer (some ⟨X, 1, none⟩)
 | 26, v => v = .pointer (some ⟨X, 1, none⟩)
 | 27, v => v = .int .i64 x.i
 | 28, v => v = .int .i64 (min s.i x.i)
 | 29, v => v = .pointer (some ⟨D + 2, 1, none⟩)
 | 30, v => v = .int .i64 s.o
 | 31, v => v = .pointer (some ⟨X, 1, none⟩)
 | 32, v => v = .pointer (some ⟨X, 2, none⟩)
 | 33, v => v = .int .i64 x.o
 | 34, v => v = .int .i64 (max s.o x.o)
 | 35, v => v = .pointer (some ⟨D + 2, 0, none⟩)
 | 36, v => v = .pointer (some ⟨D + 2, 1, none⟩)
 | _, _ => True
def spnC (s : Spn) (x : Ev) (t : Bool) : List Value := [.int .i64 (cond t (min s.i x.i) s.i), .int .i64 s.o]
def spnJ (D X : Nat) (w1 : World) (C : Bool → List Value) (xs : List Value) (listed : Array Bool) (w : World) : Prop := Held w (D + 2) (C (listed.getD 13 false)) ∧ Held w X xs ∧ Held w (D + 1) [.int .i64 0, .int .i64 0] ∧ Below D w1 w
section
variable {P : Program} {l : List Oper} {f0 : Nat → Value} {D X : Nat} {w1 : World} {xs : List Value} {C : Bool → List Value} {Φ : Nat → Value → Prop} {i : Nat} {o : Oper}
theorem spnJ.set {listed : Array Bool} {w : World} (h : spnJ D X w1 C xs listed w) (h1 : i ≠ 13) : spnJ D X w1 C xs (listed.setIfInBounds i true) w := by
 unfold spnJ
 rw [getD_set_ne false h1]
 exact h
theorem spnJ.quiet (hg : o.guard = none) (h1 : i ≠ 13) (h : ∀ (ev : Nat → Value) (w : World), Held w X xs → (∀ j d, depB l i j = true → dstOf l j = some d → Φ d (ev d)) → (∀ s, freeB l i s = true → ev s = f0 s) →
  OpRuns P (evalOf ev) o w fun v w' => w' = w ∧ ∀ d, o.dst = some d → Φ d v) : OpOkJ P l f0 (spnJ D X w1 C xs) (fun s v _ => Φ s v) i o := by
 intro ev w listed hJ hsz hun hcl δ φ
 rw [hg]
 dsimp only
 exact OpRuns.mono (h ev w hJ.2.1 δ φ) fun v w' ⟨e, h4⟩ => ⟨by rw [e]; exact hJ.set h1, fun _ _ _ _ _ h => h, h4⟩
theorem spnJ.read (hg : o.guard = none) (d1 : depB l 13 i = true) (h1 : i ≠ 13) (h : ∀ (ev : Nat → Value) (w : World), Held w (D + 2) (C false) → (∀ j d, depB l i j = true → dstOf l j = some d → Φ d (ev d)) → (∀ s, freeB l i s = true → ev s = f0 s) →
  OpRuns P (evalOf ev) o w fun v w' => w' = w ∧ ∀ d, o.dst = some d → Φ d v) : OpOkJ P l f0 (spnJ D X w1 C xs) (fun s v _ => Φ s v) i o := by
 intro ev w listed hJ hsz hun hcl δ φ
 rw [hg]
 dsimp only
 have n1 : listed.getD 13 false = false := by
  cases hx : listed.getD 13 false with
  | false => rfl
  | true => rw [hcl 13 i hx d1] at hun; cases hun
 have h0 := hJ.1
 rw [n1] at h0
 exact OpRuns.mono (h ev w h0 δ φ) fun v w' ⟨e, h4⟩ => ⟨by rw [e]; exact hJ.set h1, fun _ _ _ _ _ h => h, h4⟩
theorem spnJ.all {listed : Array Bool} {w : World} (h : spnJ D X w1 C xs listed w) (h1 : listed.getD 13 false = true) : Held w (D + 2) (C true) ∧ Held w X xs ∧ Held w (D + 1) [.int .i64 0, .int .i64 0] ∧ Below D w1 w := by
 unfold spnJ at h
 rwa [h1] at h
theorem spnJ.stored {listed : Array Bool} {w : World} {s : Spn} {x : Ev} (h : spnJ D X w1 (spnC s x) xs listed w) (hl : 13 < listed.size) (hX : D + 2 < X) : spnJ D X w1 (spnC s x) xs (listed.setIfInBounds 13 true) (w.setCell ⟨D + 2, 0, none⟩ (.int .i64 (min s.i x.i))) := by
 unfold spnJ
 rw [show (listed.setIfInBounds 13 true).getD 13 false = true by simp [hl]]
 exact ⟨h.1.set 0 _, h.2.1.other (by omega) _ _, h.2.2.1.other (by omega) _ _, h.2.2.2.setCell (by show D ≤ D + 2; omega) _⟩
end
theorem dspan_any (d : Dc) (rv ev cv : Value) (w : World) (h : EvsAt w ev d.evs) (hl : d.evs.length ≤ 2000000) :
  Calls Tryz.prog 20 #[d.v rv ev cv] w fun e w' => e = .returned (spA (dspV d.evs)) ∧ Below w.heap.size w w' := by
 obtain ⟨A, cp, rfl⟩ := h.form
 have H := ι h
 clear h
 rw [show d.v rv (.slice A d.evs.length cp) cv = .agg #[.string (sB d.title), .string (sB d.lang), .int .u8 d.rate, .bool d.drop, .int .i64 d.last, rv, .slice A d.evs.length cp, cv] from rfl]
 obtain ⟨R, hR⟩ : ∃ R, R = dspV d.evs := ⟨_, rfl⟩
 rw [← hR]
 have HR := ι hR
 clear hR
 obtain ⟨n, hn⟩ : ∃ n, n = d.evs.length := ⟨_, rfl⟩
 rw [← hn] at H hl ⊢
 obtain ⟨D, hD⟩ : ∃ D, D = w.heap.size := ⟨_, rfl⟩
 have HDe := ι hD
 go_enter Tryz.func20, Tryz.ntmps20
 by_cases h0 : n = 0
 ·subst h0
  have HR2 := ι (show R = ⟨0, 0⟩ by rw [HR.out, List.length_eq_zero_iff.1 hn.symm]; rfl)
  clear hn hl
  go_wp2_with (with_reducible refine stop_at ?_)
  rw [← hD]
  generalize hw3 : World.alloc _ _ = w3
  have R3 := ι (show Held w3 (D + 1) [.int .i64 0, .int .i64 0] by subst hw3; exact Held.new (by simp [hD]))
  have B3 := ι (show Below D w w3 by subst hw3; rw [hD]; exact (Below.more' _ _).alloc (by simp) _)
  have fr := R3.out.cell
  refine bodyPost_ret (by simp [results, Tryz.results20, fr, go_sem]; try rfl) rfl ?_
  exact ⟨by rw [HR2.out]; try rfl, by first | exact B3.out | (rw [← hD]; exact B3.out)⟩
 have hn0 : 0 < n := by omega
 have HN := ι hn
 obtain ⟨x0, hx0⟩ : ∃ x, d.evs[0]? = some x := ⟨_, List.getElem?_eq_getElem (by omega)⟩
 obtain ⟨b, o, r, rfl, ⟨q0, q1, q2, q3, q4, q5, q6⟩, hrr⟩ := EvsAt.get H.out hx0
 rw [Nat.zero_mul, Nat.add_zero] at q0 q1 q2
 have hbr : b < w.heap.size := World.block_lt_of_cell? w _ q0
 have HX0 := ι hx0
 have tn : (((n : Nat) : Int) == 0) = false := by simp; omega
 clear hn h0 hx0 q3 q4 q5 q6 hrr
 go_wp2_with fail
 rw [← hD]
 generalize hw1 : World.alloc (World.alloc (World.alloc w _) _) _ = w1
 have Z1 := ι (show Held w1 (D + 1) [.int .i64 0, .int .i64 0] by subst hw1; exact (Held.new (by simp [hD])).alloc _)
 have S1 := ι (show Held w1 (D + 2) [.int .i64 x0.i, .int .i64 x0.o] by subst hw1; exact Held.new (by simp [hD]))
 have B1 := ι (show Below D w w1 by subst hw1; rw [hD]; exact ((Below.more' _ _).alloc (by simp) _).alloc (by simp; omega) _)
 have hD1 : D + 2 < w1.heap.size := S1.out.lt
 clear hw1 hD q0 q1 q2
 go_loopw [19] (fun kv wr => ∃ (k : Nat) (s : Spn), kv = .int .i64 k ∧ k ≤ n ∧ Hid (s = (d.evs.take k).foldl spnW ⟨x0.i, x0.o⟩) ∧ Hid (Held wr (D + 2) [.int .i64 s.i, .int .i64 s.o]) ∧ Hid (Held wr (D + 1) [.int .i64 0, .int .i64 0]) ∧ Hid (Below D w wr)) (fun kv _ => n - (intOf kv).toNat)
 case atStart => exact ⟨0, _, rfl, Nat.zero_le _, ι rfl, S1, Z1, B1⟩
 case round =>
 obtain ⟨k, s, rfl, hk, HS, SR, ZR, BR⟩ := hrel
 by_cases hlt : k < n
 ·have hlt2 : (k : Int) < (n : Int) := by omega
  obtain ⟨x, hx⟩ : ∃ x, d.evs[k]? = some x := ⟨_, List.getElem?_eq_getElem (by have := HN.out; omega)⟩
  have HST := ι (show spnW s x = (d.evs.take (k + 1)).foldl spnW ⟨x0.i, x0.o⟩ by rw [HS.out]; exact (spnW_step hx _).symm)
  obtain ⟨b', o', r', hE, ⟨q0, q1, q2, q3, q4, q5, q6⟩, hrr⟩ := EvsAt.get (SeqAt.ext H.out EvC.stays (HDe.out ▸ BR.out)) hx
  injection hE with hE
  injection hE with e1 e2
  subst e1; subst e2
  obtain ⟨rA, rc, rfl⟩ := hrr.form
  have hbw : b < wr.heap.size := World.block_lt_of_cell? wr _ q0
  clear hx hrr HS
  go_wp2_with fail
  generalize hwx : World.alloc wr _ = w2
  obtain ⟨X, hX⟩ : ∃ X, X = wr.heap.size := ⟨_, rfl⟩
  rw [← hX]
  have hXD : D + 2 < X := by rw [hX]; exact SR.out.lt
  have S2 := ι (show Held w2 (D + 2) [.int .i64 s.i, .int .i64 s.o] by subst hwx; exact SR.out.alloc _)
  have Z2 := ι (show Held w2 (D + 1) [.int .i64 0, .int .i64 0] by subst hwx; exact ZR.out.alloc _)
  have X2 := ι (show Held w2 X [.int .i64 x.id, .int .i64 x.i, .int .i64 x.o, .string (sB x.reg), .int .u8 x.kind, .string (sB x.spk), .slice rA x.rows.length rc] by subst hwx; exact Held.new hX)
  have B2 := ι (show Below D w w2 by subst hwx; exact BR.out.alloc (by omega) _)
  clear hwx hX SR ZR BR q0 q1 q2 q3 q4 q5 q6 hbw
  refine wp_region_seen 15 (by kernel_rfl) (spnJ D X w2 (spnC s x) [.int .i64 x.id, .int .i64 x.i, .int .i64 x.o, .string (sB x.reg), .int .u8 x.kind, .string (sB x.spk), .slice rA x.rows.length rc]) (fun sl v _ => PhiSp D X s x sl v) 39 rfl (by kernel_rfl) (by kernel_rfl) (by kernel_rfl) (by kernel_rfl) (by kernel_rfl) ⟨S2.out, X2.out, Z2.out, (Below.refl _ _).drew⟩ ?hops ?hend
  case hops =>
   refine ⟨?o0, ?o1, ?o2, ?o3, ?o4, ?o5, ?o6, ?o7, ?o8, ?o9, ?o10, ?o11, ?o12, ?o13, ?o14, trivial⟩
   case o0 =>
    refine spnJ.quiet rfl (by decide) ?_
    intro ev w8 hI δ φ
    have a3 : ev 3 = .pointer (some ⟨D + 2, 0, none⟩) := φ 3 (by kernel_rfl)
    clear δ φ
    try dsimp only
    simp [OpRuns, execOp, evalOf, a3, go_sem]
    first | exact ⟨rfl, rfl⟩ | exact rfl
   case o1 =>
    refine spnJ.read rfl (by kernel_rfl) (by decide) ?_
    intro ev w8 hI δ φ
    have a23 : ev 23 = .pointer (some ⟨D + 2, 0, none⟩) := δ 0 23 (by kernel_rfl) rfl
    clear δ φ
    have y : w8.cell? ⟨D + 2, 0, none⟩ = some (.int .i64 s.i) := hI.cell 0
    try dsimp only
    simp [OpRuns, execOp, evalOf, a23, y, go_sem]
    first | exact ⟨rfl, rfl⟩ | exact rfl
   case o2 =>
    refine spnJ.quiet rfl (by decide) ?_
    intro ev w8 hI δ φ
    have a5 : ev 5 = .pointer (some ⟨X, 0, none⟩) := φ 5 (by kernel_rfl)
    clear δ φ
    try dsimp only
    simp [OpRuns, execOp, evalOf, a5, go_sem]
    first | exact ⟨rfl, rfl⟩ | exact rfl
   case o3 =>
    refine spnJ.quiet rfl (by decide) ?_
    intro ev w8 hI δ φ
    have a25 : ev 25 = .pointer (some ⟨X, 1, none⟩) := δ 2 25 (by kernel_rfl) rfl
    clear δ φ
    try dsimp only
    simp [OpRuns, execOp, evalOf, a25, go_sem]
    first | exact ⟨rfl, rfl⟩ | exact rfl
   case o4 =>
    refine spnJ.quiet rfl (by decide) ?_
    intro ev w8 hI δ φ
    have a26 : ev 26 = .pointer (some ⟨X, 1, none⟩) := δ 3 26 (by kernel_rfl) rfl
    clear δ φ
    have y : w8.cell? ⟨X, 1, none⟩ = some (.int .i64 x.i) := hI.cell 1
    try dsimp only
    simp [OpRuns, execOp, evalOf, a26, y, go_sem]
    first | exact ⟨rfl, rfl⟩ | exact rfl
   case o5 =>
    refine spnJ.quiet rfl (by decide) ?_
    intro ev w8 hI δ φ
    have a24 : ev 24 = .int .i64 s.i := δ 1 24 (by kernel_rfl) rfl
    have a27 : ev 27 = .int .i64 x.i := δ 4 27 (by kernel_rfl) rfl
    clear δ φ
    try dsimp only
    simp [OpRuns, execOp, evalOf, a24, a27, go_sem]
    show Value.int _ _ = Value.int _ _
    congr 1 <;> omega
   case o6 =>
    refine spnJ.quiet rfl (by decide) ?_
    intro ev w8 hI δ φ
    have a3 : ev 3 = .pointer (some ⟨D + 2, 0, none⟩) := φ 3 (by kernel_rfl)
    clear δ φ
    try dsimp only
    simp [OpRuns, execOp, evalOf, a3, go_sem]
    first | exact ⟨rfl, rfl⟩ | exact rfl
   case o7 =>
    refine spnJ.read rfl (by kernel_rfl) (by decide) ?_
    intro ev w8 hI δ φ
    have a29 : ev 29 = .pointer (some ⟨D + 2, 1, none⟩) := δ 6 29 (by kernel_rfl) rfl
    clear δ φ
    have y : w8.cell? ⟨D + 2, 1, none⟩ = some (.int .i64 s.o) := hI.cell 1
    try dsimp only
    simp [OpRuns, execOp, evalOf, a29, y, go_sem]
    first | exact ⟨rfl, rfl⟩ | exact rfl
   case o8 =>
    refine spnJ.quiet rfl (by decide) ?_
    intro ev w8 hI δ φ
    have a5 : ev 5 = .pointer (some ⟨X, 0, none⟩) := φ 5 (by kernel_rfl)
    clear δ φ
    try dsimp only
    simp [OpRuns, execOp, evalOf, a5, go_sem]
    first | exact ⟨rfl, rfl⟩ | exact rfl
   case o9 =>
    refine spnJ.quiet rfl (by decide) ?_
    intro ev w8 hI δ φ
    have a31 : ev 31 = .pointer (some ⟨X, 1, none⟩) := δ 8 31 (by kernel_rfl) rfl
    clear δ φ
    try dsimp only
    simp [OpRuns, execOp, evalOf, a31, go_sem]
    first | exact ⟨rfl, rfl⟩ | exact rfl
   case o10 =>
    refine spnJ.quiet rfl (by decide) ?_
    intro ev w8 hI δ φ
    have a32 : ev 32 = .pointer (some ⟨X, 2, none⟩) := δ 9 32 (by kernel_rfl) rfl
    clear δ φ
    have y : w8.cell? ⟨X, 2, none⟩ = some (.int .i64 x.o) := hI.cell 2
    try dsimp only
    simp [OpRuns, execOp, evalOf, a32, y, go_sem]
    first | exact ⟨rfl, rfl⟩ | exact rfl
   case o11 =>
    refine spnJ.quiet rfl (by decide) ?_
    intro ev w8 hI δ φ
    have a30 : ev 30 = .int .i64 s.o := δ 7 30 (by kernel_rfl) rfl
    have a33 : ev 33 = .int .i64 x.o := δ 10 33 (by kernel_rfl) rfl
    clear δ φ
    try dsimp only
    simp [OpRuns, execOp, evalOf, a30, a33, go_sem]
    show Value.int _ _ = Value.int _ _
    congr 1 <;> omega
   case o12 =>
    refine spnJ.quiet rfl (by decide) ?_
    intro ev w8 hI δ φ
    have a3 : ev 3 = .pointer (some ⟨D + 2, 0, none⟩) := φ 3 (by kernel_rfl)
    clear δ φ
    try dsimp only
    simp [OpRuns, execOp, evalOf, a3, go_sem]
    first | exact ⟨rfl, rfl⟩ | exact rfl
   case o13 =>
    intro ev w8 listed hJ hsz hun hcl δ φ
    have a35 : ev 35 = .pointer (some ⟨D + 2, 0, none⟩) := δ 12 35 (by kernel_rfl) rfl
    have a28 : ev 28 = .int .i64 (min s.i x.i) := δ 5 28 (by kernel_rfl) rfl
    clear δ φ
    have y : w8.frozen? ⟨D + 2, 0, none⟩ = false := hJ.1.free 0
    obtain ⟨z, hz⟩ : ∃ z, w8.cell? ⟨D + 2, 0, none⟩ = some z := ⟨_, hJ.1.cell 0⟩
    try dsimp only
    simp [OpRuns, execOp, evalOf, a35, a28, y, hz, go_sem]
    exact spnJ.stored hJ (by have : listed.size = 16 := hsz; omega) hXD
   case o14 =>
   refine spnJ.quiet rfl (by decide) ?_
   intro ev w8 hI δ φ
   have a3 : ev 3 = .pointer (some ⟨D + 2, 0, none⟩) := φ 3 (by kernel_rfl)
   clear δ φ
   try dsimp only
   simp [OpRuns, execOp, evalOf, a3, go_sem]
   first | exact ⟨rfl, rfl⟩ | exact rfl
  case hend =>
  intro listed a w8 hall hdf hsz hJ hPhi κ
  have hc8 := spnJ.all hJ (hall 13 (by omega))
  have xq36 : a.tmps.getD 36 undef = .pointer (some ⟨D + 2, 1, none⟩) := hPhi 14 36 (by omega) (by kernel_rfl)
  have xq34 : a.tmps.getD 34 undef = .int .i64 (max s.o x.o) := hPhi 11 34 (by omega) (by kernel_rfl)
  have xq0 : a.tmps.getD 0 undef = .agg #[.string (sB d.title), .string (sB d.lang), .int .u8 d.rate, .bool d.drop, .int .i64 d.last, rv, .slice (some ⟨b, o, none⟩) n cp, cv] := κf κ 0 rfl
  have xq1 : a.tmps.getD 1 undef = .pointer (some ⟨D, 0, none⟩) := κf κ 1 rfl
  have xq2 : a.tmps.getD 2 undef = .pointer (some ⟨D + 1, 0, none⟩) := κf κ 2 rfl
  have xq3 : a.tmps.getD 3 undef = .pointer (some ⟨D + 1 + 1, 0, none⟩) := κf κ 3 rfl
  have xq4 : a.tmps.getD 4 undef = undef := κf κ 4 rfl
  have xq6 : a.tmps.getD 6 undef = .pointer (some ⟨D, 6, none⟩) := κf κ 6 rfl
  have xq7 : a.tmps.getD 7 undef = .slice (some ⟨b, o, none⟩) n cp := κf κ 7 rfl
  have xq8 : a.tmps.getD 8 undef = .int .i64 (n : Nat) := κf κ 8 rfl
  have xq9 : a.tmps.getD 9 undef = .bool false := κf κ 9 rfl
  have xq10 : a.tmps.getD 10 undef = undef := κf κ 10 rfl
  have xq11 : a.tmps.getD 11 undef = .pointer (some ⟨D, 6, none⟩) := κf κ 11 rfl
  have xq12 : a.tmps.getD 12 undef = .slice (some ⟨b, o, none⟩) n cp := κf κ 12 rfl
  have xq13 : a.tmps.getD 13 undef = .pointer (some ⟨b, o, none⟩) := κf κ 13 rfl
  have xq14 : a.tmps.getD 14 undef = .pointer (some ⟨b, o + 1, none⟩) := κf κ 14 rfl
  have xq15 : a.tmps.getD 15 undef = .agg #[.int .i64 x0.i, .int .i64 x0.o] := κf κ 15 rfl
  have xq16 : a.tmps.getD 16 undef = .pointer (some ⟨D, 6, none⟩) := κf κ 16 rfl
  have xq17 : a.tmps.getD 17 undef = .slice (some ⟨b, o, none⟩) n cp := κf κ 17 rfl
  have xq18 : a.tmps.getD 18 undef = .int .i64 (n : Nat) := κf κ 18 rfl
  have xq19 : a.tmps.getD 19 undef = .int .i64 (k : Nat) := κf κ 19 rfl
  have xq38 : a.tmps.getD 38 undef = undef := κf κ 38 rfl
  replace hdf : a.defers = [] := hdf
  replace hsz : a.tmps.size = 39 := hsz
  have ea := act_lit hsz hdf
  simp only [getDs] at ea
  rw [xq0, xq1, xq2, xq3, xq4, xq6, xq7, xq8, xq9, xq10, xq11, xq12, xq13, xq14, xq15, xq16, xq17, xq18, xq19, xq38, xq34, xq36] at ea
  rw [ea]
  clear ea xq0 xq1 xq2 xq3 xq4 xq6 xq7 xq8 xq9 xq10 xq11 xq12 xq13 xq14 xq15 xq16 xq17 xq18 xq19 xq38 xq34 xq36 hPhi κ hdf hsz hall hJ
  generalize a.tmps.getD 5 undef = v5
  generalize a.tmps.getD 20 undef = v20
  generalize a.tmps.getD 21 undef = v21
  generalize a.tmps.getD 22 undef = v22
  generalize a.tmps.getD 23 undef = v23
  generalize a.tmps.getD 24 undef = v24
  generalize a.tmps.getD 25 undef = v25
  generalize a.tmps.getD 26 undef = v26
  generalize a.tmps.getD 27 undef = v27
  generalize a.tmps.getD 28 undef = v28
  generalize a.tmps.getD 29 undef = v29
  generalize a.tmps.getD 30 undef = v30
  generalize a.tmps.getD 31 undef = v31
  generalize a.tmps.getD 32 undef = v32
  generalize a.tmps.getD 33 undef = v33
  generalize a.tmps.getD 35 undef = v35
  generalize a.tmps.getD 37 undef = v37
  clear a
  have B8 := ι (B2.out.trans hc8.2.2.2)
  have F8 := ι hc8.1
  have Z8 := ι hc8.2.2.1
  have y1 : w8.frozen? ⟨D + 2, 1, none⟩ = false := F8.out.free 1
  have g1 : w8.cell? ⟨D + 2, 1, none⟩ = some (.int .i64 s.o) := F8.out.cell 1
  clear hc8 B2 S2 Z2 X2 hXD
  go_wp2_with fail
  go_roundw
  case rel =>
   refine ⟨k + 1, spnW s x, by go_num, by omega, HST, ι (F8.out.set 1 _), ι (Z8.out.other (by omega) _ _), ι (B8.out.setCell (by show D ≤ D + 2; omega) _)⟩
  case measure => simp [intOf]; omega
 obtain rfl : k = n := by omega
 have HS2 := ι (show s = R by rw [HS.out, HN.out, List.take_length, HR.out]; cases hq : d.evs with | nil => (rw [hq] at HN; have := HN.out; simp at this; omega) | cons y t => (have h0 := HX0.out; rw [hq] at h0; cases h0; rfl))
 clear hlt HS
 have f0 : wr.cell? ⟨D + 2, 0, none⟩ = some (.int .i64 s.i) := SR.out.cell 0
 have f1 : wr.cell? ⟨D + 2, 1, none⟩ = some (.int .i64 s.o) := SR.out.cell 1
 have z0 : wr.cell? ⟨D + 1, 0, none⟩ = some (.int .i64 0) := ZR.out.cell 0
 have z1 : wr.cell? ⟨D + 1, 1, none⟩ = some (.int .i64 0) := ZR.out.cell 1
 have y0 : wr.frozen? ⟨D + 1, 0, none⟩ = false := ZR.out.free 0
 have y1 : wr.frozen? ⟨D + 1, 1, none⟩ = false := ZR.out.free 1
 go_wp2_with fail
 generalize hw3 : World.setCell _ _ _ = w3
 have R3 := ι (show Held w3 (D + 1) [.int .i64 s.i, .int .i64 s.o] by subst hw3; exact (ZR.out.set 0 (.int .i64 s.i)).set 1 (.int .i64 s.o))
 have B3 := ι (show Below D w w3 by subst hw3; exact (BR.out.setCell (p := ⟨D + 1, 0, none⟩) (by show D ≤ D + 1; omega) _).setCell (p := ⟨D + 1, 1, none⟩) (by show D ≤ D + 1; omega) _)
 clear hw3 f0 f1 z0 z1 y0 y1
 have fr := R3.out.cell
 refine bodyPost_ret (by simp [results, Tryz.results20, fr, go_sem]; try rfl) rfl ?_
 exact ⟨by rw [HS2.out]; try rfl, by rw [← HDe.out]; exact B3.out⟩
end Go.Proofs.YtmopjhbfobmklaaGreatDoor
