/-
  The contract of place of the display. Its conditions are its hypotheses.
-/
import Derived.Test.YtmopjhbfobmklaaGreatDoorMP2
import Derived.Test.YtmopjhbfobmklaaGreatDoorMCk
set_option maxRecDepth 100000
set_option maxHeartbeats 40000000
namespace Go.Proofs.YtmopjhbfobmklaaGreatDoor
open Go.RowKit Go.Joins
set_option linter.unusedVariables false
set_option linter.unusedSimpArgs false
theorem infoGl : (Tryz.prog.info? 112).map (fun i => (i.zero, i.size, i.bytes)) = some (some (.agg #[.int .i64 0, .int .i64 0, .int .i32 0, .int .u8 0, .bool false, .bool false]), 6, 24) := by kernel_rfl
abbrev GlsAt (w : World) (v : Value) (xs : List Gl) : Prop := SeqAt w 6 (Flat Gl.cs) v xs
theorem SpsAt2.get {w : World} {A : Option Addr} {n c : Nat} {xs : List Sp} (h : SeqAt w 3 (Flat Sp.cs) (.slice A n c) xs) {k : Nat} {x : Sp} (hx : xs[k]? = some x) :
  ∃ b o, A = some ⟨b, o, none⟩ ∧ w.cell? ⟨b, o + k * 3, none⟩ = some (.int .i64 x.row) ∧ w.cell? ⟨b, o + k * 3 + 1, none⟩ = some (.int .i64 x.col) ∧ w.cell? ⟨b, o + k * 3 + 2, none⟩ = some (.int .i64 x.len) := by
 obtain ⟨b, o, cs, e1, e2, e3, e4⟩ := h.get hx
 have e4 : cs = x.cs := e4
 subst e4
 exact ⟨b, o, e1, e3 0 _ rfl, e3 1 _ rfl, e3 2 _ rfl⟩
theorem gls_of {w : World} {base : Nat} {v : Value} {xs : List Gl} (h : w.ownsRow base 112 6 v xs.length (xs.flatMap Gl.cs)) : GlsAt w v xs := by
 obtain ⟨A, c, e, hr, hn, hm, _⟩ := row_of_ownK h
 subst e
 exact SeqAt.flat (fun _ => rfl) (by decide) hr hn hm
def PlcP (L : List Gl) (w : World) (e : Ending) (w' : World) : Prop := (∃ v, e = .returned v ∧ w'.ownsRow w.heap.size 112 6 v L.length (L.flatMap Gl.cs)) ∧ Below w.heap.size w w'
theorem dplace_any (x : Ev) (rv v : Value) (regs : List Rg) (w : World) (h : RowsAt w rv x.rows) (hl : SmlR x.rows) (hg : RegsAt w v regs) (hgl : regs.length ≤ 1000) (h0 : evE x regs = 0) (hw : Wt w) :
  Calls Tryz.prog 76 #[v, x.v rv] w (PlcP (plcV (findV regs x.reg).1 x.rows) w) := by
 obtain ⟨i0, hi, hz0, hz1, hz2⟩ := info_parts infoGl
 have HI0 := ι (And.intro hi (And.intro hz0 (And.intro hz1 hz2)))
 clear hi hz0 hz1 hz2
 obtain ⟨A, c, rfl⟩ := h.form
 obtain ⟨A1, c1, rfl⟩ := hg.form
 obtain ⟨hf, hp⟩ := evE_place h0
 have HSP := ι (fun W (hb : Below w.heap.size w W) => spots_any x _ _ regs W (SeqAt.ext h RowC.stays hb) hl (SeqAt.ext hg (Flat.stays _) hb) hgl h0 (hw.on hb))
 have HSI := ι (fun (k : Nat) (s : Sp) => spot_in (k := k) (s := s) hp)
 have HR := ι h
 have HW := ι hw
 have HSM := ι hl
 have hsl : (spV' (findV regs x.reg).1 (lensV x.rows)).length = x.rows.length := by rw [spV_len2]; unfold lensV; rw [List.length_map]
 have hr4 : x.rows.length ≤ 4 := by
  obtain ⟨_, _, h3, _⟩ := evE_zero h0
  exact h3.2
 unfold plcV
 generalize spV' (findV regs x.reg).1 (lensV x.rows) = S at *
 have HLEN := ι hsl
 have hs4 : S.length ≤ 4 := by omega
 obtain ⟨id, i, o, reg, kind, spk, rows⟩ := x
 unfold Ev.v at HSP ⊢
 dsimp only at HSP HR HSM HLEN hr4 ⊢
 clear h hl hg h0 hw hf hp hsl
 have HM := ι (fun (s : Sp) (hs : s ∈ S) => show s.len.toNat ≤ 32 by
  obtain ⟨k, hk⟩ := List.getElem?_of_mem hs
  have := HSI.out k s hk
  omega)
 obtain ⟨G, hG⟩ : ∃ G, G = w.heap.size := ⟨_, rfl⟩
 have HG := ι hG
 unfold SpotsP at HSP
 unfold PlcP
 go_enter Tryz.func76, Tryz.ntmps76
 go_wp2_with fail
 rw [← hG]
 generalize hw1 : World.alloc w _ = w1
 have F1 := ι (show Held w1 G ((⟨id, i, o, reg, kind, spk, rows⟩ : Ev).cs (.slice A rows.length c)) by subst hw1; exact Held.new hG)
 have B1 := ι (show Below w.heap.size w w1 by subst hw1; exact Below.more' _ _)
 clear hw1 hG
 refine (HSP.out w1 B1.out).mono ?_
 rintro e w2 ⟨⟨A2, c2, rfl, hs2⟩, hb⟩
 have F2 := ι (F1.out.ext hb)
 have B2 := ι (B1.out.trans (hb.mono B1.out.size))
 have HS2 := ι hs2
 have hG2 : G < w2.heap.size := F2.out.lt
 clear hb F1 B1 HSP hs2
 obtain ⟨E, hE⟩ : ∃ E, E = w2.heap.size := ⟨_, rfl⟩
 have HE := ι hE
 have hGE : G < E := by omega
 clear hE
 go_wp2_with fail
 go_loopw [5, 22] (fun ov kv wr => ∃ (k : Nat) (uv : Value), uv = ov ∧ kv = .int .i64 k ∧ k ≤ S.length ∧ Hid (wr.ownsRow E 112 6 uv (plcR (S.take k) (rows.take k)).length ((plcR (S.take k) (rows.take k)).flatMap Gl.cs)) ∧ Hid (Below E w2 wr)) (fun _ kv _ => S.length - (intOf kv).toNat)
 case atStart => exact ⟨0, _, rfl, rfl, Nat.zero_le _, ι (World.ownsRow_nil _ _ _ _), ι (Below.refl _ _)⟩
 case round =>
 obtain ⟨k, uv, rfl, rfl, hk, OW, BR⟩ := hrel
 have BR' := ι (show Below w2.heap.size w2 wr from HE.out ▸ BR.out)
 have BW := ι (show Below w.heap.size w wr from B2.out.trans (BR'.out.mono B2.out.size))
 have FR := ι (F2.out.ext BR'.out)
 have hGr : G < wr.heap.size := FR.out.lt
 have hEr : E ≤ wr.heap.size := by have := BR'.out.size; have := HE.out; omega
 by_cases hlt : k < S.length
 ·have hlt2 : (k : Int) < (S.length : Int) := by omega
  obtain ⟨s, hs⟩ : ∃ s, S[k]? = some s := ⟨_, List.getElem?_eq_getElem hlt⟩
  obtain ⟨r, hr⟩ : ∃ r, rows[k]? = some r := ⟨_, List.getElem?_eq_getElem (by have := HLEN.out; omega)⟩
  have hkr : k < rows.length := (List.getElem?_eq_some_iff.1 hr).1
  have hkr2 : (k : Int) < (rows.length : Int) := by omega
  have HST := ι (plcR_step hs hr)
  obtain ⟨⟨s1, s2⟩, s3, s4, s5⟩ := HSI.out k s hs
  have hml := plcR_len (m := 32) (S.take k) (rows.take k) (fun x hx => HM.out x (List.mem_of_mem_take hx))
  rw [List.length_take, Nat.min_eq_left (by omega)] at hml
  obtain ⟨b, o', rfl, q0, q1, q2⟩ := SpsAt2.get (SeqAt.ext HS2.out (Flat.stays _) BR'.out) hs
  have hbr : b < wr.heap.size := World.block_lt_of_cell? wr _ q0
  obtain ⟨n, hn⟩ : ∃ n : Nat, s.len = (n : Int) := ⟨s.len.toNat, by omega⟩
  have hn2 : s.len.toNat = n := by omega
  rw [hn2] at HST
  obtain ⟨sr, sc, sl⟩ := s
  dsimp only at hn q0 q1 q2 s1 s2 s3 s4 s5
  subst hn
  have HSMr := ι (HSM.out.2 r (List.mem_of_getElem? hr))
  have HRk := ι hr
  clear hs hr hn2
  generalize plcR (S.take k) (rows.take k) = M at *
  go_wp2_with fail
  clear q0 q1 q2
  generalize hw3 : World.alloc wr _ = w3
  have X3 := ι (show HeldT w3 wr.heap.size 200 ((⟨sr, sc, n⟩ : Sp).cs) by subst hw3; exact HeldT.new rfl)
  have B3 := ι (show Below wr.heap.size wr w3 by subst hw3; exact Below.more' _ _)
  have OW3 := ι (own_ext OW.out B3.out)
  have BR3 := ι (show Below E w2 w3 from BR.out.trans (B3.out.mono hEr))
  obtain ⟨X, hX⟩ : ∃ X, X = wr.heap.size := ⟨_, rfl⟩
  rw [← hX] at X3 ⊢
  have hEX : E ≤ X := by omega
  have hX3 : X < w3.heap.size := X3.out.lt
  clear hw3 B3 OW hX
  have hW3 : w.heap.size ≤ E := by have := B2.out.size; have := HE.out; omega
  go_loopw [5, 29] (fun ov jv wq => ∃ (j : Nat) (uv : Value), uv = ov ∧ jv = .int .i64 j ∧ j ≤ n ∧ Hid (wq.ownsRow E 112 6 uv (M ++ glK ⟨sr, sc, n⟩ r j).length ((M ++ glK ⟨sr, sc, n⟩ r j).flatMap Gl.cs)) ∧ Hid (Below E w2 wq) ∧ Hid (HeldT wq X 200 ((⟨sr, sc, n⟩ : Sp).cs))) (fun _ jv _ => n - (intOf jv).toNat)
  case atStart => exact ⟨0, _, rfl, rfl, Nat.zero_le _, ι (by rw [show glK ⟨sr, sc, n⟩ r 0 = [] from rfl, List.append_nil]; exact OW3.out), BR3, X3⟩
  case round =>
  obtain ⟨j, uv, rfl, rfl, hj, OQ, BQ, XQ⟩ := hrel
  have BQ' := ι (show Below w2.heap.size w2 wr from HE.out ▸ BQ.out)
  have BWQ := ι (show Below w.heap.size w wr from B2.out.trans (BQ'.out.mono B2.out.size))
  have FQ := ι (F2.out.ext BQ'.out)
  have hGq : G < wr.heap.size := FQ.out.lt
  have hXq : X < wr.heap.size := XQ.out.lt
  have hEq : E ≤ wr.heap.size := by have := BQ'.out.size; have := HE.out; omega
  have hgl := glK_len ⟨sr, sc, n⟩ r j
  by_cases hjn : j < n
  ·have hjn2 : (j : Int) < (n : Int) := by omega
   have HGS := ι (glK_step ⟨sr, sc, n⟩ r j)
   obtain ⟨b2, o2, u2, rfl, q0, hu⟩ := RowsAt.get (SeqAt.ext HR.out RowC.stays BWQ.out) HRk.out
   have hb2 : b2 < wr.heap.size := World.block_lt_of_cell? wr _ q0
   have HU := ι hu
   have q := FQ.out.cell
   unfold Ev.cs at q
   have HAT := ι (rowat_any u2 r j wr hu HSMr.out (by omega) (by omega) (HW.out.on BWQ.out))
   have HGO := ι (show glO ⟨sr, sc, n⟩ r j = if (atR r j).2.2 = true ∧ (atR r j).1 ≠ 32 then [⟨sr, sc + j, (atR r j).1, (atR r j).2.1.co, (atR r j).2.1.it, (atR r j).2.1.un⟩] else [] from rfl)
   generalize hQ : atR r j = Q at *
   obtain ⟨ch, st, ok⟩ := Q
   unfold AtP at HAT
   dsimp only at HAT HGO
   clear hu hQ
   go_wp2_with fail
   clear q q0
   refine HAT.out.mono ?_
   rintro e w4 ⟨rfl, hb⟩
   have F4 := ι (FQ.out.ext hb)
   have X4 := ι (XQ.out.ext hb)
   have O4 := ι (own_ext OQ.out hb)
   have B4 := ι (show Below E w2 w4 from BQ.out.trans (hb.mono hEq))
   have hz4 := hb.size
   clear hb OQ BQ BQ' FQ XQ HAT HR BWQ
   have hE4 : E ≤ w4.heap.size := by omega
   cases ok with
   | false =>
    have HS2' := ι (show glK ⟨sr, sc, n⟩ r (j + 1) = glK ⟨sr, sc, n⟩ r j by rw [HGS.out, HGO.out, if_neg (fun h => by cases h.1), List.append_nil])
    go_wp2_with fail
    go_roundw
    case rel => exact ⟨j + 1, _, rfl, by go_num, by omega, by rw [HS2'.out]; exact ι (own_ext O4.out (Below.more' _ _)), ι (B4.out.alloc hE4 _), ι (X4.out.alloc _)⟩
    case measure => simp [intOf]; omega
   | true =>
    by_cases hc : ch = 32
    ·have tc : (ch != 32) = false := by simpa using hc
     have HS2' := ι (show glK ⟨sr, sc, n⟩ r (j + 1) = glK ⟨sr, sc, n⟩ r j by rw [HGS.out, HGO.out, if_neg (fun h => h.2 hc), List.append_nil])
     clear hc
     go_wp2_with fail
     go_roundw
     case rel => exact ⟨j + 1, _, rfl, by go_num, by omega, by rw [HS2'.out]; exact ι (own_ext O4.out (Below.more' _ _)), ι (B4.out.alloc hE4 _), ι (X4.out.alloc _)⟩
     case measure => simp [intOf]; omega
    have tc : (ch != 32) = true := by simpa using hc
    have HS2' := ι (show M ++ glK ⟨sr, sc, n⟩ r (j + 1) = (M ++ glK ⟨sr, sc, n⟩ r j) ++ [⟨sr, sc + j, ch, st.co, st.it, st.un⟩] by rw [HGS.out, HGO.out, if_pos ⟨rfl, hc⟩, List.append_assoc])
    have hml2 : (M ++ glK ⟨sr, sc, n⟩ r j).length ≤ 1000 := by rw [List.length_append]; omega
    generalize M ++ glK ⟨sr, sc, n⟩ r j = K at *
    have x0 : w4.cell? ⟨X, 0, none⟩ = some (.int .i64 sr) := X4.out.held.cell 0
    have x1 : w4.cell? ⟨X, 1, none⟩ = some (.int .i64 sc) := X4.out.held.cell 1
    have hX4 : X < w4.heap.size := X4.out.lt
    clear hc
    obtain ⟨co, it, un⟩ := st
    dsimp only at HS2' ⊢
    go_wp2_with (at_builtin; go_loud (refine wpList_append_own _ rfl _ _ 66 rfl E 112 i0 (.agg #[.int .i64 0, .int .i64 0, .int .i32 0, .int .u8 0, .bool false, .bool false]) 6 24 Tryz.underlying66 HI0.out.1 HI0.out.2.1 HI0.out.2.2.1 HI0.out.2.2.2 rfl (by decide) _ K.length (K.flatMap Gl.cs) rfl (own_ext (own_ext O4.out (Below.more' _ _)) (Below.more' _ _)) ⟨w4.heap.size + 1, 0, none⟩ 1 1 (⟨sr, sc + j, ch, co, it, un⟩ : Gl).cs rfl rfl (CellsAt.all (by simp [CellsAt, go_sem, Gl.cs])) (by simp [Value.oneCell', Gl.cs]) (by simp only [maxLen]; omega) (by omega) (by simp; omega) ?_))
    intro v5 w5 ho5 hgr5 _
    have O5 := ι (show w5.ownsRow E 112 6 v5 (M ++ glK ⟨sr, sc, n⟩ r (j + 1)).length ((M ++ glK ⟨sr, sc, n⟩ r (j + 1)).flatMap Gl.cs) by
     rw [HS2'.out, List.length_append, List.flatMap_append]
     simpa using ho5)
    have B5 := ι (show Below E w2 w5 from ((B4.out.alloc hE4 _).alloc (by simp; omega) _).grown hgr5 (by simp; omega) (own_base O4.out))
    have X5 := ι (show HeldT w5 X 200 ((⟨sr, sc, n⟩ : Sp).cs) from (hgr5.block X (by simp; omega) (fun e => by
     obtain ⟨cur, h2⟩ := own_block O4.out e.symm
     have h3 := X4.out
     unfold HeldT at h3
     rw [h3] at h2
     injection h2 with h2
     injection h2 with _ h2 _
     exact absurd h2 (by decide))).trans ((X4.out.alloc _).alloc _))
    clear ho5 hgr5 O4 B4 X4 F4 x0 x1
    go_wp2_with fail
    go_roundw
    case rel => exact ⟨j + 1, _, rfl, by go_num, by omega, O5, B5, X5⟩
    case measure => simp [intOf]; omega
  obtain rfl : j = n := by omega
  have OQ2 := ι (show wr.ownsRow E 112 6 uv (plcR (S.take (k + 1)) (rows.take (k + 1))).length ((plcR (S.take (k + 1)) (rows.take (k + 1))).flatMap Gl.cs) by rw [HST.out]; exact OQ.out)
  clear OQ hjn
  go_wp2_with fail
  go_roundw
  case rel => exact ⟨k + 1, _, rfl, by go_num, by omega, OQ2, BQ⟩
  case measure => simp [intOf]; omega
 obtain rfl : k = S.length := by omega
 rw [List.take_length, HLEN.out, List.take_length] at OW
 have hwE : w.heap.size ≤ E := by have := B2.out.size; have := HE.out; omega
 have HO2 := ι (ownsRow_mono OW.out hwE)
 clear hlt OW
 go_wp2_with fail
 go_ret
 exact ⟨⟨_, rfl, HO2.out⟩, BW.out⟩
end Go.Proofs.YtmopjhbfobmklaaGreatDoor
