/-
  Headers and anchored comments. The conditions of the contracts are their hypotheses.
-/
import Derived.Test.YtmopjhbfobmklaaGreatDoorME5
import Derived.Test.YtmopjhbfobmklaaGreatDoorMT1
import Derived.Test.YtmopjhbfobmklaaGreatDoorMMp
set_option maxRecDepth 100000
set_option maxHeartbeats 40000000
namespace Go.Proofs.YtmopjhbfobmklaaGreatDoor
open Go.RowKit Go.Joins
set_option linter.unusedVariables false
set_option linter.unusedSimpArgs false
def rateD (r : Int) (d : Bool) : Int := if (!rtOk r || (d && !(rt r).drop)) = true then 13 else 0
theorem drate_any (r : Int) (h0 : 0 ≤ r) (h1 : r ≤ 255) (d : Bool) (w : World) :
    Calls Tryz.prog 78 #[.int .u8 r, .bool d] w fun e w' => e = .returned (.int .i64 (rateD r d)) ∧ Below w.heap.size w w' := by
  have H := ι (valid_any r h0 h1)
  have K := ι (canDrop_any r h0 h1)
  unfold rateD
  generalize rtOk r = b at *
  generalize (rt r).drop = c at *
  cases b <;> cases d <;> cases c <;>
    (go_enter Tryz.func78, Tryz.ntmps78
     go_wp2_with (first | (go_at_call 64; refine (H.out _).mono ?_; rintro e w1 ⟨rfl, hb⟩) | (go_at_call 65; refine (K.out _).mono ?_; rintro e w2 ⟨rfl, hb2⟩))
     go_ret
     first | exact ⟨rfl, hb⟩ | exact ⟨rfl, hb.trans (hb2.mono hb.size)⟩)
def hdE (d : Dc) : Int :=
 if valV (sB d.title) = false then 10 else if 400 < d.title.length then 9 else if d.lang ≠ [] ∧ nmB d.lang = false then 5 else if rateD d.rate d.drop ≠ 0 then rateD d.rate d.drop else if d.last < 0 ∨ 1099511627776 < d.last then 2 else 0
theorem header_any (d : Dc) (r e c : Value) (w : World) (ht : d.title.length ≤ 2000000) (h0 : 0 ≤ d.rate) (h1 : d.rate ≤ 255) (hw : Wt w) :
  Calls Tryz.prog 43 #[d.v r e c] w fun e w' => e = .returned (.int .i64 (hdE d)) ∧ Below w.heap.size w w' := by
 have HW := ι hw
 obtain ⟨vt, hvt⟩ : ∃ b, b = valV (sB d.title) := ⟨_, rfl⟩
 obtain ⟨nm, hnm⟩ : ∃ b, b = nmB d.lang := ⟨_, rfl⟩
 obtain ⟨rq, hrq⟩ : ∃ q, q = rateD d.rate d.drop := ⟨_, rfl⟩
 have HE := ι (show hdE d = if vt = false then 10 else if 400 < d.title.length then 9 else if d.lang ≠ [] ∧ nm = false then 5 else if rq ≠ 0 then rq else if d.last < 0 ∨ 1099511627776 < d.last then 2 else 0 by rw [hvt, hnm, hrq]; rfl)
 have HV := ι (fun W (hb : Below w.heap.size w W) => hvt ▸ valid_text (sB d.title) W (by rw [sB_size]; omega) (HW.out.on hb))
 have HNM := ι (fun W => show Calls Tryz.prog 52 #[.string (sB d.lang)] W fun e w' => e = .returned (.bool nm) ∧ W = w' from by rw [hnm]; exact name_any (sB d.lang) W)
 have HRT := ι (fun W => hrq ▸ drate_any d.rate h0 h1 d.drop W)
 have hsz : (sB d.title).size = d.title.length := sB_size _
 clear hw hvt hnm hrq h0 h1
 obtain ⟨G, hG⟩ : ∃ G, G = w.heap.size := ⟨_, rfl⟩
 rw [show d.v r e c = .agg #[.string (sB d.title), .string (sB d.lang), .int .u8 d.rate, .bool d.drop, .int .i64 d.last, r, e, c] from rfl]
 go_enter Tryz.func43, Tryz.ntmps43
 go_wp2_with fail
 rw [← hG]
 generalize hw1 : World.alloc _ _ = w1
 have F1 := ι (show Held w1 G (d.cs r e c) by subst hw1; exact Held.new hG)
 have B1 := ι (show Below w.heap.size w w1 by subst hw1; exact Below.more' _ _)
 clear hw1 hG
 refine (HV.out w1 B1.out).mono ?_
 rintro e' w2 ⟨rfl, hb⟩
 have B2 := ι (B1.out.trans (hb.mono B1.out.size))
 have F2 := ι (F1.out.ext hb)
 clear hb F1 B1 HV
 have q := F2.out.cell
 have hG2 := F2.out.lt
 unfold Dc.cs at q
 cases vt with
 | false =>
  have H3 := ι (show hdE d = 10 by rw [HE.out, if_pos rfl])
  go_wp2_with fail
  go_ret
  exact ⟨by rw [H3.out]; rfl, B2.out⟩
 | true =>
 by_cases h4 : 400 < d.title.length
 ·have H3 := ι (show hdE d = 9 by rw [HE.out, if_neg (by decide), if_pos h4])
  have t0 : (400 : Int) < (d.title.length : Int) := by omega
  clear h4
  go_wp2_with fail
  go_ret
  exact ⟨by rw [H3.out]; rfl, B2.out⟩
 have HE1 := ι (show hdE d = if d.lang ≠ [] ∧ nm = false then 5 else if rq ≠ 0 then rq else if d.last < 0 ∨ 1099511627776 < d.last then 2 else 0 by rw [HE.out, if_neg (by decide), if_neg h4])
 have t0 : ¬ (400 : Int) < (d.title.length : Int) := by omega
 clear HE h4
 obtain ⟨sk, hsk⟩ : ∃ b, b = d.lang.isEmpty := ⟨_, rfl⟩
 have hske : (d.lang ≠ [] ∧ nm = false) ↔ (sk = false ∧ nm = false) := by
  rw [hsk]
  cases d.lang with
  | nil => simp
  | cons _ _ => simp
 have t4 : (sB d.lang).toList.isEmpty = sk := by rw [str_emp, hsk]
 have HE4 := ι (show hdE d = if sk = false ∧ nm = false then 5 else if rq ≠ 0 then rq else if d.last < 0 ∨ 1099511627776 < d.last then 2 else 0 by
  rw [HE1.out]
  by_cases h : d.lang ≠ [] ∧ nm = false
  ·rw [if_pos h, if_pos (hske.1 h)]
  rw [if_neg h, if_neg (fun h' => h (hske.2 h'))])
 clear hske hsk HE1
 by_cases hbad : sk = false ∧ nm = false
 ·obtain ⟨rfl, rfl⟩ := hbad
  have H3 := ι (show hdE d = 5 by rw [HE4.out, if_pos ⟨rfl, rfl⟩])
  go_wp2_with (go_at_call 52; refine (HNM.out _).mono ?_; rintro e w1 ⟨rfl, rfl⟩)
  go_ret
  exact ⟨by rw [H3.out]; rfl, B2.out⟩
 have HE5 := ι (show hdE d = if rq ≠ 0 then rq else if d.last < 0 ∨ 1099511627776 < d.last then 2 else 0 by rw [HE4.out, if_neg hbad])
 clear HE4
 cases sk <;> cases nm <;> first | exact absurd ⟨rfl, rfl⟩ hbad | skip
 all_goals
  clear hbad
  go_wp2_with (go_at_call 52; refine (HNM.out _).mono ?_; rintro e w1 ⟨rfl, rfl⟩)
  refine (HRT.out w2).mono ?_
  rintro e' w3 ⟨rfl, hb⟩
  have B3 := ι (B2.out.trans (hb.mono B2.out.size))
  have F3 := ι (F2.out.ext hb)
  clear hb q t4
  have q := F3.out.cell
  have hG3 := F3.out.lt
  unfold Dc.cs at q
  by_cases hr : rq = 0
  ·have HE6 := ι (show hdE d = if d.last < 0 ∨ 1099511627776 < d.last then 2 else 0 by rw [HE5.out, if_neg (by rw [hr]; simp)])
   subst hr
   by_cases hl0 : d.last < 0
   ·have t5 : decide (d.last < 0) = true := by simpa using hl0
    have H3 := ι (show hdE d = 2 by rw [HE6.out, if_pos (.inl hl0)])
    go_wp2_with fail
    go_ret
    exact ⟨by rw [H3.out]; rfl, B3.out⟩
   have t5 : decide (d.last < 0) = false := by simpa using hl0
   by_cases hl1 : 1099511627776 < d.last
   ·have t6 : decide (1099511627776 < d.last) = true := by simpa using hl1
    have H3 := ι (show hdE d = 2 by rw [HE6.out, if_pos (.inr hl1)])
    go_wp2_with fail
    go_ret
    exact ⟨by rw [H3.out]; rfl, B3.out⟩
   have t6 : decide (1099511627776 < d.last) = false := by simpa using hl1
   have H3 := ι (show hdE d = 0 by rw [HE6.out, if_neg (by omega)])
   go_wp2_with fail
   go_ret
   exact ⟨by rw [H3.out]; rfl, B3.out⟩
  have t5 : (rq != 0) = true := by simpa using hr
  have H3 := ι (show hdE d = rq by rw [HE5.out, if_pos hr])
  clear hr
  go_wp2_with fail
  go_ret
  exact ⟨by rw [H3.out]; rfl, B3.out⟩
def anE (d : Dc) (c : Cm) (F : Int → Option Int) : Int :=
 if c.ev < 1 ∨ d.last < c.ev then 2 else if c.los = true then (if c.fr ≠ 0 ∨ c.til ≠ 0 then 2 else 0) else match F c.ev with
  | none => 6
  | some i => match d.evs[i.toNat]? with
   | some x => if c.fr < 0 ∨ c.til ≤ c.fr ∨ elenV x.rows < c.til then 2 else 0
   | none => 0
def EvL (x : Ev) : Prop := SmlR x.rows ∧ x.rows.length ≤ 4 ∧ ∀ r ∈ x.rows, r.length ≤ 16
theorem two_more (w : World) (a b : Obj) : Below w.heap.size w ((w.alloc a).alloc b) := (Below.more' _ _).trans ((Below.more' _ _).mono (by simp))
def Knows (d : Dc) (F : Int → Option Int) : Prop := ∀ k p, F k = some p → ∃ (j : Nat) (x : Ev), p = j ∧ d.evs[j]? = some x ∧ EvL x
def PhiAnY (G g' o' j n' c' : Nat) (u : Value) (x : Ev) (fr tt q : Int) (a0 a1 a2 : Bool) : Nat → Value → Prop
 | 38, v => v = .pointer (some ⟨G + 1, 2, none⟩)
 | 39, v => v = .int .i64 fr
 | 40, v => v = .bool (a0)
 | 41, v => v = .bool (a0)
 | 42, v => (a0 = false → v = .pointer (some ⟨G + 1, 2, none⟩)) ∧ (¬ (a0 = false) → v = undef)
 | 43, v => (a0 = false → v = .int .i64 fr) ∧ (¬ (a0 = false) → v = undef)
 | 44, v => (a0 = false → v = .pointer (some ⟨G + 1, 3, none⟩)) ∧ (¬ (a0 = false) → v = undef)
 | 45, v => (a0 = false → v = .int .i64 tt) ∧ (¬ (a0 = false) → v = undef)
 | 46, v => (a0 = false → v = .bool (a1)) ∧ (¬ (a0 = false) → v = undef)
 | 47, v => v = .bool (a0 || a1)
 | 48, v => v = .bool (a0 || a1)
 | 49, v => ((a0 || a1) = false → v = .pointer (some ⟨G + 1, 3, none⟩)) ∧ (¬ ((a0 || a1) = false) → v = undef)
 | 50, v => ((a0 || a1) = false → v = .int .i64 tt) ∧ (¬ ((a0 || a1) = false) → v = undef)
 | 51, v => ((a0 || a1) = false → v = .pointer (some ⟨G, 6, none⟩)) ∧ (¬ ((a0 || a1) = false) → v = undef)
 | 52, v => ((a0 || a1) = false → v = .slice (some ⟨g', o', none⟩) n' c') ∧ (¬ ((a0 || a1) = false) → v = undef)
 | 53, v => ((a0 || a1) = false → v = .int .i64 (j : Int)) ∧ (¬ ((a0 || a1) = false) → v = undef)
 | 54, v => ((a0 || a1) = false → v = .pointer (some ⟨g', o' + j * 7, none⟩)) ∧ (¬ ((a0 || a1) = false) → v = undef)
 | 55, v => ((a0 || a1) = false → v = .agg #[.int .i64 x.id, .int .i64 x.i, .int .i64 x.o, .string (sB x.reg), .int .u8 x.kind, .string (sB x.spk), u]) ∧ (¬ ((a0 || a1) = false) → v = undef)
 | 56, v => ((a0 || a1) = false → v = .int .i64 q) ∧ (¬ ((a0 || a1) = false) → v = undef)
 | 57, v => ((a0 || a1) = false → v = .bool (a2)) ∧ (¬ ((a0 || a1) = false) → v = undef)
 | 58, v => v = .bool ((a0 || a1) || a2)
 | _, _ => True
def PhiAn (G g' o' j n' c' : Nat) (u : Value) (x : Ev) (fr tt q : Int) (a0 a1 a2 : Bool) (sl : Nat) (v : Value) (w : World) : Prop := PhiAnY G g' o' j n' c' u x fr tt q a0 a1 a2 sl v
theorem anch_any (d : Dc) (r e c : Value) (cm : Cm) (b n : Nat) (F : Int → Option Int) (w : World) (he : EvsAt w e d.evs) (hel : d.evs.length ≤ 2000000) (hm : MapI w b n F) (hF : Knows d F) (hlast : d.last ≤ 1099511627776) (hw : Wt w) :
  Calls Tryz.prog 88 #[d.v r e c, cm.v, .map (some b)] w fun e' w' => e' = .returned (.int .i64 (anE d cm F)) ∧ Below w.heap.size w w' := by
 have HW := ι hw
 have HM := ι hm
 have HK := ι hF
 have HEV := ι he
 obtain ⟨A, c', rfl⟩ := he.form
 clear hw hm hF he
 obtain ⟨G, hG⟩ : ∃ G, G = w.heap.size := ⟨_, rfl⟩
 obtain ⟨id, ev, fr, tt, au, text, don, los⟩ := cm
 have HE := ι (show anE d ⟨id, ev, fr, tt, au, text, don, los⟩ F = if ev < 1 ∨ d.last < ev then 2 else if los = true then (if fr ≠ 0 ∨ tt ≠ 0 then 2 else 0) else match F ev with
  | none => 6
  | some i => match d.evs[i.toNat]? with
   | some x => if fr < 0 ∨ tt ≤ fr ∨ elenV x.rows < tt then 2 else 0
   | none => 0 from rfl)
 rw [show d.v r (.slice A d.evs.length c') c = .agg #[.string (sB d.title), .string (sB d.lang), .int .u8 d.rate, .bool d.drop, .int .i64 d.last, r, .slice A d.evs.length c', c] from rfl]
 unfold Cm.v
 go_enter Tryz.func88, Tryz.ntmps88
 by_cases h1 : ev < 1
 ·have t1 : decide (ev < 1) = true := by simpa using h1
  have H3 := ι (show anE d ⟨id, ev, fr, tt, au, text, don, los⟩ F = 2 by rw [HE.out, if_pos (.inl h1)])
  go_wp2_with fail
  go_ret
  exact ⟨by rw [H3.out]; rfl, (Below.more' _ _).trans ((Below.more' _ _).mono (by simp))⟩
 have t1 : decide (ev < 1) = false := by simpa using h1
 by_cases h2 : d.last < ev
 ·have t2 : decide (d.last < ev) = true := by simpa using h2
  have H3 := ι (show anE d ⟨id, ev, fr, tt, au, text, don, los⟩ F = 2 by rw [HE.out, if_pos (.inr h2)])
  go_wp2_with fail
  go_ret
  exact ⟨by rw [H3.out]; rfl, (Below.more' _ _).trans ((Below.more' _ _).mono (by simp))⟩
 have t2 : decide (d.last < ev) = false := by simpa using h2
 have HE1 := ι (show anE d ⟨id, ev, fr, tt, au, text, don, los⟩ F = if los = true then (if fr ≠ 0 ∨ tt ≠ 0 then 2 else 0) else match F ev with
  | none => 6
  | some i => match d.evs[i.toNat]? with
   | some x => if fr < 0 ∨ tt ≤ fr ∨ elenV x.rows < tt then 2 else 0
   | none => 0 by rw [HE.out, if_neg (by omega)])
 have hei : -9223372036854775808 ≤ ev ∧ ev ≤ 9223372036854775807 := by omega
 clear HE
 cases los with
 | true =>
  by_cases h3 : fr = 0
  ·by_cases h4 : tt = 0
   ·subst h3 h4
    have H3 := ι (show anE d ⟨id, ev, 0, 0, au, text, don, true⟩ F = 0 by rw [HE1.out, if_pos rfl, if_neg (by simp)])
    go_wp2_with fail
    go_ret
    exact ⟨by rw [H3.out]; rfl, (Below.more' _ _).trans ((Below.more' _ _).mono (by simp))⟩
   subst h3
   have t4 : (tt != 0) = true := by simpa using h4
   have H3 := ι (show anE d ⟨id, ev, 0, tt, au, text, don, true⟩ F = 2 by rw [HE1.out, if_pos rfl, if_pos (.inr h4)])
   clear h4
   go_wp2_with fail
   go_ret
   exact ⟨by rw [H3.out]; rfl, (Below.more' _ _).trans ((Below.more' _ _).mono (by simp))⟩
  have t3 : (fr != 0) = true := by simpa using h3
  have H3 := ι (show anE d ⟨id, ev, fr, tt, au, text, don, true⟩ F = 2 by rw [HE1.out, if_pos rfl, if_pos (.inl h3)])
  clear h3
  go_wp2_with fail
  go_ret
  exact ⟨by rw [H3.out]; rfl, (Below.more' _ _).trans ((Below.more' _ _).mono (by simp))⟩
 | false =>
 have HL := ι (show ∀ W, Below w.heap.size w W → (Instr.lookup 114 (.map (some b)) (.int .i64 ev) true).run Tryz.prog W = .ok (.tuple #[.int .i64 (elO (F ev)), .bool (F ev).isSome]) W from fun W hW => (HM.out.ext hW).look true hei)
 obtain ⟨o, ho⟩ : ∃ o, o = F ev := ⟨_, rfl⟩
 rw [← ho] at HL HE1
 have HO := ι ho
 clear ho hei
 cases o with
 | none =>
  have H3 := ι (show anE d ⟨id, ev, fr, tt, au, text, don, false⟩ F = 6 by rw [HE1.out, if_neg (by decide)])
  have hlk := HL.out _ (two_more w (.cells #[.string (sB d.title), .string (sB d.lang), .int .u8 d.rate, .bool d.drop, .int .i64 d.last, r, .slice A d.evs.length c', c] 41 (0, 0)) (.cells #[.int .i64 id, .int .i64 ev, .int .i64 fr, .int .i64 tt, .string (sB au), .string (sB text), .bool don, .bool false] 137 (0, 0)))
  clear t1 t2
  have t1 : decide (ev < 1) = false := by simpa using h1
  have t2 : decide (d.last < ev) = false := by simpa using h2
  clear h1 h2
  go_wp2_with fail
  go_ret
  exact ⟨by rw [H3.out]; rfl, two_more w _ _⟩
 | some p =>
 obtain ⟨j, x, rfl, hj, hx⟩ := HK.out ev p HO.out.symm
 have HE2 := ι (show anE d ⟨id, ev, fr, tt, au, text, don, false⟩ F = if fr < 0 ∨ tt ≤ fr ∨ elenV x.rows < tt then 2 else 0 by
  rw [HE1.out, if_neg (by decide)]
  show (match d.evs[((j : Nat) : Int).toNat]? with | some x => _ | none => _) = _
  rw [Int.toNat_natCast, hj])
 have hlk : (Instr.lookup 114 (.map (some b)) (.int .i64 ev) true).run Tryz.prog ((w.alloc (.cells #[.string (sB d.title), .string (sB d.lang), .int .u8 d.rate, .bool d.drop, .int .i64 d.last, r, .slice A d.evs.length c', c] 41 (0, 0))).alloc (.cells #[.int .i64 id, .int .i64 ev, .int .i64 fr, .int .i64 tt, .string (sB au), .string (sB text), .bool don, .bool false] 137 (0, 0))) = .ok (.tuple #[.int .i64 (j : Int), .bool true]) _ := HL.out _ (two_more w _ _)
 have HJ := ι hj
 have HX := ι hx
 have hjl : j < d.evs.length := (List.getElem?_eq_some_iff.1 hj).1
 obtain ⟨g, o, u, eA, _⟩ := EvsAt.get HEV.out hj
 subst eA
 clear hj hx HE1 h1 h2 HO HK
 go_wp2_with fail
 clear hlk
 rw [← hG]
 generalize hw5 : World.alloc _ _ = w5
 have FD := ι (show Held w5 G (d.cs r (.slice (some ⟨g, o, none⟩) d.evs.length c') c) by subst hw5; exact (Held.new hG).alloc _)
 have FC := ι (show Held w5 (G + 1) (Cm.cs ⟨id, ev, fr, tt, au, text, don, false⟩) by subst hw5; exact Held.new (by simp [hG]))
 have B5 := ι (show Below w.heap.size w w5 by subst hw5; exact two_more w _ _)
 clear hw5 hG HL HM
 obtain ⟨u, hu⟩ : ∃ u, u = Value.nilIface := ⟨_, rfl⟩
 clear hu u
 obtain ⟨g', o', u, eA, ⟨y0, y1, y2, y3, y4, y5, y6⟩, hrow⟩ := EvsAt.get (HEV.out.ext EvC.stays B5.out) HJ.out
 obtain ⟨rfl, rfl⟩ : g' = g ∧ o' = o := by
  injection eA with e
  injection e with e1 e2
  exact ⟨e1.symm, e2.symm⟩
 clear eA
 have HROW := ι hrow
 clear hrow
 obtain ⟨N, hN⟩ : ∃ N, N = w5.heap.size := ⟨_, rfl⟩
 have hGN : G < N := by have := FD.out.lt; omega
 have hHN : G + 1 < N := by have := FC.out.lt; omega
 have hgN : g' < N := by have h : g' < w5.heap.size := World.block_lt_of_cell? w5 _ y0; omega
 have HSZ := ι (show ∀ W, Below N w5 W → N ≤ W.heap.size from fun W hW => by have := hW.size; omega)
 have GN := ι (show w.heap.size ≤ N by have := B5.out.size; omega)
 obtain ⟨q, hq⟩ : ∃ q, q = elenV x.rows := ⟨_, rfl⟩
 have HLN := ι (show ∀ W, Below N w5 W → Calls Tryz.prog 125 #[x.v u] W fun e w' => e = .returned (.int .i64 q) ∧ Below W.heap.size W w' from fun W hW => by
  rw [hq]
  exact elen_any x u W (HROW.out.ext RowC.stays (hN ▸ hW)) HX.out.1 (HW.out.on (B5.out.trans (hW.mono GN.out))) HX.out.2.1 HX.out.2.2)
 rw [← hq] at HE2
 clear hN hq
 have d6 : w5.cell? ⟨G, 6, none⟩ = some (.slice (some ⟨g', o', none⟩) d.evs.length c') := FD.out.cell 6
 have e2 : w5.cell? ⟨G + 1, 2, none⟩ = some (.int .i64 fr) := FC.out.cell 2
 have e3 : w5.cell? ⟨G + 1, 3, none⟩ = some (.int .i64 tt) := FC.out.cell 3
 obtain ⟨a0, ha0⟩ : ∃ b, b = decide (fr < 0) := ⟨_, rfl⟩
 obtain ⟨a1, ha1⟩ : ∃ b, b = decide (tt ≤ fr) := ⟨_, rfl⟩
 obtain ⟨a2, ha2⟩ : ∃ b, b = decide (q < tt) := ⟨_, rfl⟩
 have HE3 := ι (show anE d ⟨id, ev, fr, tt, au, text, don, false⟩ F = if ((a0 || a1) || a2) = true then 2 else 0 by
  rw [HE2.out, ha0, ha1, ha2]
  simp only [Bool.or_eq_true, decide_eq_true_eq, or_assoc])
 have k0 := ha0.symm
 have k1 := ha1.symm
 have k2 := ha2.symm
 have m4 : (j : Int) < (d.evs.length : Int) := by omega
 clear ha0 ha1 ha2 HE2 HX HJ
 refine wp_region_spec (by kernel_rfl) (fun w' => Below N w5 w') (PhiAn G g' o' j d.evs.length c' u x fr tt q a0 a1 a2) 59 rfl (by kernel_rfl) (Below.refl _ _).drew ?hops ?hend
 case hops =>
  refine ⟨?o0, ?o1, ?o2, ?o3, ?o4, ?o5, ?o6, ?o7, ?o8, ?o9, ?o10, ?o11, ?o12, ?o13, ?o14, ?o15, ?o16, ?o17, ?o18, ?o19, ?o20, trivial⟩
  case o0 =>
   intro ev w8 hI δ φ
   have a4 : ev 4 = .pointer (some ⟨G + 1, 0, none⟩) := φ 4 (by kernel_rfl)
   clear δ φ
   try dsimp only
   simp [OpRuns, execOp, evalOf, a4, go_sem]
   exact ⟨hI, rfl⟩
  case o1 =>
   intro ev w8 hI δ φ
   have a38 : ev 38 = .pointer (some ⟨G + 1, 2, none⟩) := δ 0 38 (by kernel_rfl) rfl
   have y0 : w8.cell? ⟨G + 1, 2, none⟩ = some (.int .i64 fr) := (hI.cell (p := ⟨G + 1, 2, none⟩) hHN).trans e2
   clear δ φ
   try dsimp only
   simp [OpRuns, execOp, evalOf, a38, y0, go_sem]
   exact ⟨hI, rfl⟩
  case o2 =>
   intro ev w8 hI δ φ
   have a39 : ev 39 = .int .i64 fr := δ 1 39 (by kernel_rfl) rfl
   clear δ φ
   try dsimp only
   simp [OpRuns, execOp, evalOf, a39, go_sem]
   exact ⟨hI, congrArg Value.bool k0⟩
  case o3 =>
   intro ev w8 hI δ φ
   have a40 : ev 40 = .bool (a0) := δ 2 40 (by kernel_rfl) rfl
   clear δ φ
   try dsimp only
   simp [OpRuns, execOp, evalOf, a40, go_sem]
   exact ⟨hI, rfl⟩
  case o4 =>
   intro ev w8 hI δ φ
   have ag : ev 41 = .bool a0 := δ 3 41 (by kernel_rfl) rfl
   refine γ ag rfl (fun hR => ?_) fun hn d hd => by cases hd; exact ⟨fun hr => absurd hr hn, fun _ => rfl⟩
   clear ag
   have a4 : ev 4 = .pointer (some ⟨G + 1, 0, none⟩) := φ 4 (by kernel_rfl)
   clear δ φ
   try dsimp only
   simp [OpRuns, execOp, evalOf, a4, go_sem]
   exact ⟨hI, ⟨fun _ => rfl, fun h => absurd hR h⟩⟩
  case o5 =>
   intro ev w8 hI δ φ
   have ag : ev 41 = .bool a0 := δ 3 41 (by kernel_rfl) rfl
   refine γ ag rfl (fun hR => ?_) fun hn d hd => by cases hd; exact ⟨fun hr => absurd hr hn, fun _ => rfl⟩
   clear ag
   have a42 : ev 42 = .pointer (some ⟨G + 1, 2, none⟩) := (δ 4 42 (by kernel_rfl) rfl).1 hR
   have y0 : w8.cell? ⟨G + 1, 2, none⟩ = some (.int .i64 fr) := (hI.cell (p := ⟨G + 1, 2, none⟩) hHN).trans e2
   clear δ φ
   try dsimp only
   simp [OpRuns, execOp, evalOf, a42, y0, go_sem]
   exact ⟨hI, ⟨fun _ => rfl, fun h => absurd hR h⟩⟩
  case o6 =>
   intro ev w8 hI δ φ
   have ag : ev 41 = .bool a0 := δ 3 41 (by kernel_rfl) rfl
   refine γ ag rfl (fun hR => ?_) fun hn d hd => by cases hd; exact ⟨fun hr => absurd hr hn, fun _ => rfl⟩
   clear ag
   have a4 : ev 4 = .pointer (some ⟨G + 1, 0, none⟩) := φ 4 (by kernel_rfl)
   clear δ φ
   try dsimp only
   simp [OpRuns, execOp, evalOf, a4, go_sem]
   exact ⟨hI, ⟨fun _ => rfl, fun h => absurd hR h⟩⟩
  case o7 =>
   intro ev w8 hI δ φ
   have ag : ev 41 = .bool a0 := δ 3 41 (by kernel_rfl) rfl
   refine γ ag rfl (fun hR => ?_) fun hn d hd => by cases hd; exact ⟨fun hr => absurd hr hn, fun _ => rfl⟩
   clear ag
   have a44 : ev 44 = .pointer (some ⟨G + 1, 3, none⟩) := (δ 6 44 (by kernel_rfl) rfl).1 hR
   have y0 : w8.cell? ⟨G + 1, 3, none⟩ = some (.int .i64 tt) := (hI.cell (p := ⟨G + 1, 3, none⟩) hHN).trans e3
   clear δ φ
   try dsimp only
   simp [OpRuns, execOp, evalOf, a44, y0, go_sem]
   exact ⟨hI, ⟨fun _ => rfl, fun h => absurd hR h⟩⟩
  case o8 =>
   intro ev w8 hI δ φ
   have ag : ev 41 = .bool a0 := δ 3 41 (by kernel_rfl) rfl
   refine γ ag rfl (fun hR => ?_) fun hn d hd => by cases hd; exact ⟨fun hr => absurd hr hn, fun _ => rfl⟩
   clear ag
   have a43 : ev 43 = .int .i64 fr := (δ 5 43 (by kernel_rfl) rfl).1 hR
   have a45 : ev 45 = .int .i64 tt := (δ 7 45 (by kernel_rfl) rfl).1 hR
   clear δ φ
   try dsimp only
   simp [OpRuns, execOp, evalOf, a43, a45, go_sem]
   exact ⟨hI, ⟨fun _ => congrArg Value.bool k1, fun h => absurd hR h⟩⟩
  case o9 =>
   intro ev w8 hI δ φ
   have a41 : ev 41 = .bool (a0) := δ 3 41 (by kernel_rfl) rfl
   have ax : a0 = false → ev 46 = .bool (a1) := fun hc => (δ 8 46 (by kernel_rfl) rfl).1 hc
   clear δ φ
   obtain ⟨cc, hcc⟩ : ∃ cc, cc = a0 := ⟨_, rfl⟩
   rw [← hcc] at a41
   cases cc with
   | true =>
    clear ax
    have hv : Value.bool true = (Value.bool (a0 || a1)) := by rw [← hcc]; simp
    clear hcc
    try dsimp only
    simp [OpRuns, execOp, evalOf, a41, go_sem]
    exact ⟨hI, hv⟩
   | false =>
    have ax := ax hcc.symm
    have hv : (Value.bool (a1)) = (Value.bool (a0 || a1)) := by rw [← hcc]; simp
    clear hcc
    try dsimp only
    simp [OpRuns, execOp, evalOf, a41, ax, go_sem]
    exact ⟨hI, hv⟩
  case o10 =>
   intro ev w8 hI δ φ
   have a47 : ev 47 = .bool (a0 || a1) := δ 9 47 (by kernel_rfl) rfl
   clear δ φ
   try dsimp only
   simp [OpRuns, execOp, evalOf, a47, go_sem]
   exact ⟨hI, rfl⟩
  case o11 =>
   intro ev w8 hI δ φ
   have ag : ev 48 = .bool (a0 || a1) := δ 10 48 (by kernel_rfl) rfl
   refine γ ag rfl (fun hR => ?_) fun hn d hd => by cases hd; exact ⟨fun hr => absurd hr hn, fun _ => rfl⟩
   clear ag
   have a4 : ev 4 = .pointer (some ⟨G + 1, 0, none⟩) := φ 4 (by kernel_rfl)
   clear δ φ
   try dsimp only
   simp [OpRuns, execOp, evalOf, a4, go_sem]
   exact ⟨hI, ⟨fun _ => rfl, fun h => absurd hR h⟩⟩
  case o12 =>
   intro ev w8 hI δ φ
   have ag : ev 48 = .bool (a0 || a1) := δ 10 48 (by kernel_rfl) rfl
   refine γ ag rfl (fun hR => ?_) fun hn d hd => by cases hd; exact ⟨fun hr => absurd hr hn, fun _ => rfl⟩
   clear ag
   have a49 : ev 49 = .pointer (some ⟨G + 1, 3, none⟩) := (δ 11 49 (by kernel_rfl) rfl).1 hR
   have y0 : w8.cell? ⟨G + 1, 3, none⟩ = some (.int .i64 tt) := (hI.cell (p := ⟨G + 1, 3, none⟩) hHN).trans e3
   clear δ φ
   try dsimp only
   simp [OpRuns, execOp, evalOf, a49, y0, go_sem]
   exact ⟨hI, ⟨fun _ => rfl, fun h => absurd hR h⟩⟩
  case o13 =>
   intro ev w8 hI δ φ
   have ag : ev 48 = .bool (a0 || a1) := δ 10 48 (by kernel_rfl) rfl
   refine γ ag rfl (fun hR => ?_) fun hn d hd => by cases hd; exact ⟨fun hr => absurd hr hn, fun _ => rfl⟩
   clear ag
   have a3 : ev 3 = .pointer (some ⟨G, 0, none⟩) := φ 3 (by kernel_rfl)
   clear δ φ
   try dsimp only
   simp [OpRuns, execOp, evalOf, a3, go_sem]
   exact ⟨hI, ⟨fun _ => rfl, fun h => absurd hR h⟩⟩
  case o14 =>
   intro ev w8 hI δ φ
   have ag : ev 48 = .bool (a0 || a1) := δ 10 48 (by kernel_rfl) rfl
   refine γ ag rfl (fun hR => ?_) fun hn d hd => by cases hd; exact ⟨fun hr => absurd hr hn, fun _ => rfl⟩
   clear ag
   have a51 : ev 51 = .pointer (some ⟨G, 6, none⟩) := (δ 13 51 (by kernel_rfl) rfl).1 hR
   have y0 : w8.cell? ⟨G, 6, none⟩ = some (.slice (some ⟨g', o', none⟩) d.evs.length c') := (hI.cell (p := ⟨G, 6, none⟩) hGN).trans d6
   clear δ φ
   try dsimp only
   simp [OpRuns, execOp, evalOf, a51, y0, go_sem]
   exact ⟨hI, ⟨fun _ => rfl, fun h => absurd hR h⟩⟩
  case o15 =>
   intro ev w8 hI δ φ
   have ag : ev 48 = .bool (a0 || a1) := δ 10 48 (by kernel_rfl) rfl
   refine γ ag rfl (fun hR => ?_) fun hn d hd => by cases hd; exact ⟨fun hr => absurd hr hn, fun _ => rfl⟩
   clear ag
   have a7 : ev 7 = .int .i64 (j : Int) := φ 7 (by kernel_rfl)
   clear δ φ
   try dsimp only
   simp [OpRuns, execOp, evalOf, a7, go_sem]
   exact ⟨hI, ⟨fun _ => rfl, fun h => absurd hR h⟩⟩
  case o16 =>
   intro ev w8 hI δ φ
   have ag : ev 48 = .bool (a0 || a1) := δ 10 48 (by kernel_rfl) rfl
   refine γ ag rfl (fun hR => ?_) fun hn d hd => by cases hd; exact ⟨fun hr => absurd hr hn, fun _ => rfl⟩
   clear ag
   have a52 : ev 52 = .slice (some ⟨g', o', none⟩) d.evs.length c' := (δ 14 52 (by kernel_rfl) rfl).1 hR
   have a53 : ev 53 = .int .i64 (j : Int) := (δ 15 53 (by kernel_rfl) rfl).1 hR
   clear δ φ
   try dsimp only
   simp [OpRuns, execOp, evalOf, a52, a53, m4, hjl, go_sem]
   exact ⟨hI, ⟨fun _ => rfl, fun h => absurd hR h⟩⟩
  case o17 =>
   intro ev w8 hI δ φ
   have ag : ev 48 = .bool (a0 || a1) := δ 10 48 (by kernel_rfl) rfl
   refine γ ag rfl (fun hR => ?_) fun hn d hd => by cases hd; exact ⟨fun hr => absurd hr hn, fun _ => rfl⟩
   clear ag
   have a54 : ev 54 = .pointer (some ⟨g', o' + j * 7, none⟩) := (δ 16 54 (by kernel_rfl) rfl).1 hR
   have y0 : w8.cell? ⟨g', o' + j * 7, none⟩ = some (.int .i64 x.id) := (hI.cell (p := ⟨g', o' + j * 7, none⟩) hgN).trans y0
   have y1 : w8.cell? ⟨g', o' + j * 7 + 1, none⟩ = some (.int .i64 x.i) := (hI.cell (p := ⟨g', o' + j * 7 + 1, none⟩) hgN).trans y1
   have y2 : w8.cell? ⟨g', o' + j * 7 + 2, none⟩ = some (.int .i64 x.o) := (hI.cell (p := ⟨g', o' + j * 7 + 2, none⟩) hgN).trans y2
   have y3 : w8.cell? ⟨g', o' + j * 7 + 3, none⟩ = some (.string (sB x.reg)) := (hI.cell (p := ⟨g', o' + j * 7 + 3, none⟩) hgN).trans y3
   have y4 : w8.cell? ⟨g', o' + j * 7 + 4, none⟩ = some (.int .u8 x.kind) := (hI.cell (p := ⟨g', o' + j * 7 + 4, none⟩) hgN).trans y4
   have y5 : w8.cell? ⟨g', o' + j * 7 + 5, none⟩ = some (.string (sB x.spk)) := (hI.cell (p := ⟨g', o' + j * 7 + 5, none⟩) hgN).trans y5
   have y6 : w8.cell? ⟨g', o' + j * 7 + 6, none⟩ = some (u) := (hI.cell (p := ⟨g', o' + j * 7 + 6, none⟩) hgN).trans y6
   clear δ φ
   try dsimp only
   simp [OpRuns, execOp, evalOf, a54, y0, y1, y2, y3, y4, y5, y6, go_sem]
   exact ⟨hI, ⟨fun _ => rfl, fun h => absurd hR h⟩⟩
  case o18 =>
   intro ev w8 hI δ φ
   have ag : ev 48 = .bool (a0 || a1) := δ 10 48 (by kernel_rfl) rfl
   refine γ ag rfl (fun hR => ?_) fun hn d hd => by cases hd; exact ⟨fun hr => absurd hr hn, fun _ => rfl⟩
   clear ag
   have a55 : ev 55 = .agg #[.int .i64 x.id, .int .i64 x.i, .int .i64 x.o, .string (sB x.reg), .int .u8 x.kind, .string (sB x.spk), u] := (δ 17 55 (by kernel_rfl) rfl).1 hR
   clear δ φ
   try dsimp only
   refine runs_call (f := 125) (args := #[.agg #[.int .i64 x.id, .int .i64 x.i, .int .i64 x.o, .string (sB x.reg), .int .u8 x.kind, .string (sB x.spk), u]]) (by simp [execOp, evalOf, resolve, invoke, a55, go_sem]) ((HLN.out w8 hI).mono ?_)
   rintro e w9 ⟨he, hb⟩
   exact ⟨_, he, hI.trans (hb.mono (HSZ.out w8 hI)), fun s u h => h, fun d hd => by cases hd; exact ⟨fun _ => rfl, fun h => absurd hR h⟩⟩
  case o19 =>
   intro ev w8 hI δ φ
   have ag : ev 48 = .bool (a0 || a1) := δ 10 48 (by kernel_rfl) rfl
   refine γ ag rfl (fun hR => ?_) fun hn d hd => by cases hd; exact ⟨fun hr => absurd hr hn, fun _ => rfl⟩
   clear ag
   have a50 : ev 50 = .int .i64 tt := (δ 12 50 (by kernel_rfl) rfl).1 hR
   have a56 : ev 56 = .int .i64 q := (δ 18 56 (by kernel_rfl) rfl).1 hR
   clear δ φ
   try dsimp only
   simp [OpRuns, execOp, evalOf, a50, a56, go_sem]
   exact ⟨hI, ⟨fun _ => congrArg Value.bool k2, fun h => absurd hR h⟩⟩
  case o20 =>
  intro ev w8 hI δ φ
  have a48 : ev 48 = .bool (a0 || a1) := δ 10 48 (by kernel_rfl) rfl
  have ax : (a0 || a1) = false → ev 57 = .bool (a2) := fun hc => (δ 19 57 (by kernel_rfl) rfl).1 hc
  clear δ φ
  obtain ⟨cc, hcc⟩ : ∃ cc, cc = (a0 || a1) := ⟨_, rfl⟩
  rw [← hcc] at a48
  cases cc with
  | true =>
   clear ax
   have hv : Value.bool true = (Value.bool ((a0 || a1) || a2)) := by rw [← hcc]; simp
   clear hcc
   try dsimp only
   simp [OpRuns, execOp, evalOf, a48, go_sem]
   exact ⟨hI, hv⟩
  | false =>
   have ax := ax hcc.symm
   have hv : (Value.bool (a2)) = (Value.bool ((a0 || a1) || a2)) := by rw [← hcc]; simp
   clear hcc
   try dsimp only
   simp [OpRuns, execOp, evalOf, a48, ax, go_sem]
   exact ⟨hI, hv⟩
 case hend =>
 intro a w6 hdf hsz hI hPhi κ
 replace hdf : a.defers = [] := hdf
 replace hsz : a.tmps.size = 59 := hsz
 have x58 : a.tmps.getD 58 undef = .bool ((a0 || a1) || a2) := hPhi 20 58 (by kernel_rfl)
 have ea := act_lit hsz hdf
 simp only [getDs] at ea
 rw [x58] at ea
 rw [ea]
 clear ea x58 hPhi κ hdf hsz
 generalize a.tmps.getD 0 undef = u0, a.tmps.getD 1 undef = u1, a.tmps.getD 2 undef = u2, a.tmps.getD 3 undef = u3, a.tmps.getD 4 undef = u4, a.tmps.getD 5 undef = u5, a.tmps.getD 6 undef = u6, a.tmps.getD 7 undef = u7, a.tmps.getD 8 undef = u8, a.tmps.getD 9 undef = u9, a.tmps.getD 10 undef = u10, a.tmps.getD 11 undef = u11, a.tmps.getD 12 undef = u12, a.tmps.getD 13 undef = u13, a.tmps.getD 14 undef = u14, a.tmps.getD 15 undef = u15, a.tmps.getD 16 undef = u16, a.tmps.getD 17 undef = u17, a.tmps.getD 18 undef = u18, a.tmps.getD 19 undef = u19, a.tmps.getD 20 undef = u20, a.tmps.getD 21 undef = u21, a.tmps.getD 22 undef = u22, a.tmps.getD 23 undef = u23, a.tmps.getD 24 undef = u24, a.tmps.getD 25 undef = u25, a.tmps.getD 26 undef = u26, a.tmps.getD 27 undef = u27, a.tmps.getD 28 undef = u28, a.tmps.getD 29 undef = u29, a.tmps.getD 30 undef = u30, a.tmps.getD 31 undef = u31, a.tmps.getD 32 undef = u32, a.tmps.getD 33 undef = u33, a.tmps.getD 34 undef = u34, a.tmps.getD 35 undef = u35, a.tmps.getD 36 undef = u36, a.tmps.getD 37 undef = u37, a.tmps.getD 38 undef = u38, a.tmps.getD 39 undef = u39, a.tmps.getD 40 undef = u40, a.tmps.getD 41 undef = u41, a.tmps.getD 42 undef = u42, a.tmps.getD 43 undef = u43, a.tmps.getD 44 undef = u44, a.tmps.getD 45 undef = u45, a.tmps.getD 46 undef = u46, a.tmps.getD 47 undef = u47, a.tmps.getD 48 undef = u48, a.tmps.getD 49 undef = u49, a.tmps.getD 50 undef = u50, a.tmps.getD 51 undef = u51, a.tmps.getD 52 undef = u52, a.tmps.getD 53 undef = u53, a.tmps.getD 54 undef = u54, a.tmps.getD 55 undef = u55, a.tmps.getD 56 undef = u56, a.tmps.getD 57 undef = u57
 clear a
 have HI6 := ι (show Below w.heap.size w w6 from B5.out.trans (hI.mono GN.out))
 clear k0 k1 k2 m4 d6 e2 e3 y0 y1 y2 y3 y4 y5 y6 hI HSZ HLN
 cases hr : ((a0 || a1) || a2) with
 | true =>
  have H3 := ι (show anE d ⟨id, ev, fr, tt, au, text, don, false⟩ F = 2 by rw [HE3.out, if_pos hr])
  clear hr HE3
  go_wp2_with fail
  go_ret
  exact ⟨by rw [H3.out]; rfl, HI6.out⟩
 | false =>
  have H3 := ι (show anE d ⟨id, ev, fr, tt, au, text, don, false⟩ F = 0 by rw [HE3.out, if_neg (by rw [hr]; decide)])
  clear hr HE3
  go_wp2_with fail
  go_ret
  exact ⟨by rw [H3.out]; rfl, HI6.out⟩
end Go.Proofs.YtmopjhbfobmklaaGreatDoor
