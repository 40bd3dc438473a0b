/-
  The contracts of Chars of texts and At of rows. Their conditions are their hypotheses.
-/
import Derived.Test.YtmopjhbfobmklaaGreatDoorMCe
set_option maxRecDepth 100000
set_option maxHeartbeats 40000000
namespace Go.Proofs.YtmopjhbfobmklaaGreatDoor
open Go.RowKit Go.Joins
set_option linter.unusedVariables false
set_option linter.unusedSimpArgs false
theorem infoR : (Tryz.prog.info? 21).map (fun i => (i.zero, i.size, i.bytes)) = some (some (.int .i32 0), 1, 4) := by kernel_rfl
def chsV (s : List UInt8) : List Int := if valV (sB s) = true then (rns (sB s)).map (fun r : Nat => (r : Int)) else []
def ChsP (L : List Int) (w : World) (e : Ending) (w' : World) : Prop := (∃ A c, e = .returned (.slice A L.length c) ∧ RowAt w' A (L.map (Value.int .i32))) ∧ Below w.heap.size w w'
theorem chars_any (t : List UInt8) (w : World) (ht : t.length ≤ 2000000) (hw : Wt w) :
  Calls Tryz.prog 155 #[.string (sB t)] w (ChsP (chsV t) w) := by
 obtain ⟨i0, hi, hz0, hz1, hz2⟩ := info_parts infoR
 have HI0 := ι (And.intro hi (And.intro hz0 (And.intro hz1 hz2)))
 clear hi hz0 hz1 hz2
 obtain ⟨G, hG⟩ : ∃ G, G = w.heap.size := ⟨_, rfl⟩
 have HG := ι hG
 have hs : (sB t).size ≤ 2000000 := by rw [sB_size]; exact ht
 have HV := ι (valid_text (sB t) w hs hw)
 have HE := ι (show chsV t = if valV (sB t) = true then (rns (sB t)).map (fun r : Nat => (r : Int)) else [] from rfl)
 generalize sB t = s at *
 generalize chsV t = C at *
 generalize valV s = v at *
 clear hw ht
 unfold ChsP
 cases v with
 | false =>
  have HE2 := ι (show C = [] from HE.out)
  clear HE
  go_enter Tryz.func155, Tryz.ntmps155
  go_wp2_with fail
  refine HV.out.mono ?_
  rintro e w1 ⟨rfl, hb⟩
  have B := ι hb
  clear hb
  go_wp2_with fail
  go_ret
  rw [HE2.out]
  exact ⟨⟨none, 0, rfl, RowAt.nil _ _⟩, B.out⟩
 | true =>
  have HE2 := ι (show C = (rns s).map (fun r : Nat => (r : Int)) from HE.out)
  clear HE
  go_enter Tryz.func155, Tryz.ntmps155
  go_wp2_with fail
  refine HV.out.mono ?_
  rintro e w1 ⟨rfl, hb⟩
  have B1 := ι hb
  obtain ⟨K, hK⟩ : ∃ K, K = w1.heap.size := ⟨_, rfl⟩
  have hGK : G ≤ K := by rw [hG, hK]; exact hb.size
  clear hb
  go_wp2_with fail
  rw [← hK]
  generalize hw2 : World.iter w1 s 0 = w2
  have I2 := ι (show w2.heap[K]? = some (.stringIter s 0) by subst hw2; rw [hK]; exact World.iter_heap w1 s 0)
  have B2 := ι (show Below G w w2 by subst hw2; rw [hG]; exact B1.out.trans ((Below.more' _ _).mono B1.out.size))
  have hz2 : w2.heap.size = K + 1 := by subst hw2; rw [hK]; simp [World.iter]
  clear hw2 hK B1
  go_loopw [3] (fun ov wr => ∃ (pos b : Nat) (pre : List Int) (uv : Value), uv = ov ∧ s.size ≤ pos + b ∧ pre.length ≤ pos ∧ Hid (wr.heap[K]? = some (.stringIter s pos)) ∧ Hid (Below G w wr) ∧ Hid (wr.ownsRow (K + 1) 21 1 uv pre.length (pre.map (Value.int .i32))) ∧ Hid (pre ++ (rnsF s b pos).map (fun r : Nat => (r : Int)) = C)) (fun _ wr => s.size - wr.iterPos K)
  case atStart => exact ⟨0, s.size, [], _, rfl, by omega, Nat.le_refl _, I2, B2, ι (World.ownsRow_nil _ _ _ _), ι HE2.out.symm⟩
  case round =>
  obtain ⟨pos, b, pre, uv, rfl, hb, hpl, I, B, OW, H⟩ := hrel
  have hK2 : K < wr.heap.size := (Array.getElem?_eq_some_iff.1 I.out).1
  by_cases hp : pos < s.size
  ·have hnx : ∀ ty, (Instr.next (.pointer (some ⟨K, 0, none⟩)) true ty).run Tryz.prog wr = _ := fun ty => Lib.run_next_any_at wr K s pos ty I.out hp
   have hwd := Lib.decode_width_pos s pos hp
   obtain ⟨b, rfl⟩ : ∃ c, b = c + 1 := ⟨b - 1, by omega⟩
   have hle := decode_le s pos
   have H2 := ι (show (pre ++ [((Utf8.decode s pos).1 : Int)]) ++ (rnsF s b (pos + (Utf8.decode s pos).2)).map (fun r : Nat => (r : Int)) = C by
    rw [← H.out]
    show _ = pre ++ (if pos < s.size then _ else _ : List Nat).map _
    rw [if_pos hp]
    simp)
   generalize (Utf8.decode s pos).1 = x at *
   generalize (Utf8.decode s pos).2 = d at *
   clear H
   have I0 := ι I.out
   have I3 := ι (Lib.iterAt_heap wr K s pos (pos + d) I.out)
   have B3 := ι (Lib.below_iterAt B.out hGK s (pos + d))
   have OW3 := ι (own_same OW.out (w' := wr.iterAt K s (pos + d)) (fun g hg => Lib.iterAt_other wr K g s _ (by have := (OW.out.lt g hg).1; omega)))
   have hsz := Lib.iterAt_size wr K s (pos + d)
   clear OW B I
   have hit : wr.iterPos K = pos := by unfold World.iterPos; rw [I0.out]
   have HIT := ι hit
   clear hit I0
   obtain ⟨w3, hw3⟩ : ∃ w3, w3 = World.iterAt wr K s (pos + d) := ⟨_, rfl⟩
   rw [← hw3] at hsz
   have HI3 := ι (hw3 ▸ I3.out)
   have HB3 := ι (hw3 ▸ B3.out)
   have HOW3 := ι (hw3 ▸ OW3.out)
   clear I3 B3 OW3
   have hpos4 : s.size - (pos + d) < s.size - pos := by omega
   have hK3 : K < w3.heap.size := by omega
   go_wp2_with (at_builtin; rw [← hw3]; go_loud (refine wpList_append_own _ rfl _ _ 242 rfl (K + 1) 21 i0 (.int .i32 0) 1 4 Tryz.underlying242 HI0.out.1 HI0.out.2.1 HI0.out.2.2.1 HI0.out.2.2.2 rfl (by decide) _ pre.length _ rfl (own_ext HOW3.out (Below.more' _ _)) ⟨w3.heap.size, 0, none⟩ 1 1 [.int .i32 (x : Int)] rfl rfl (World.news_of_block (heap_at w3 _ rfl)) (by simp [Value.oneCell']) (by simp only [maxLen]; omega) (by omega) (by simp; omega) ?_))
   intro v4 w4 ho4 hgr4 _
   rw [← hw3] at hgr4
   have HO4 := ι (show w4.ownsRow (K + 1) 21 1 v4 (pre ++ [(x : Int)]).length ((pre ++ [(x : Int)]).map (Value.int .i32)) by rw [List.length_append, List.map_append]; exact ho4)
   have I4 := ι (show w4.heap[K]? = some (.stringIter s (pos + d)) from (hgr4.block K (by simp; omega) (fun e => by have := (HOW3.out.lt K e.symm).1; omega)).trans (((Below.more' w3 _).block K hK3).trans HI3.out))
   have B4 := ι (show Below G w w4 from (HB3.out.alloc (by have := HB3.out.size; have := HG.out; omega) _).grown hgr4 (by have := HB3.out.size; have := HG.out; simp; omega) (fun g hg => by have := own_base HOW3.out g hg; omega))
   have hit4 : w4.iterPos K = pos + d := by unfold World.iterPos; rw [I4.out]
   have HIT4 := ι hit4
   clear ho4 hgr4 HOW3 HB3 HI3 hit4 hw3
   go_wp2_with fail
   go_roundw
   case rel => exact ⟨pos + d, b, pre ++ [(x : Int)], _, rfl, by omega, by rw [List.length_append]; simp only [List.length_singleton]; omega, I4, B4, HO4, H2⟩
   case measure => rw [HIT.out, HIT4.out]; exact hpos4
  have hnx : ∀ ty, (Instr.next (.pointer (some ⟨K, 0, none⟩)) true ty).run Tryz.prog wr = _ := fun ty => Lib.run_next_end_at wr K s pos ty I.out hp
  have H3 := ι (show pre = C by rw [← H.out, rnsF_end s b pos hp]; simp)
  obtain ⟨A3, c3, e3, hr3, _⟩ := row_of_ownK OW.out
  go_wp2_with fail
  go_ret
  rw [← H3.out]
  exact ⟨⟨A3, c3, by rw [← e3]; rfl, hr3⟩, HG.out ▸ B.out⟩
structure St where
 co : Int
 it : Bool
 un : Bool
def st0 : St := ⟨0, false, false⟩
abbrev St.v (x : St) : Value := .agg #[.int .u8 x.co, .bool x.it, .bool x.un]
def St.cs (x : St) : List Value := [.int .u8 x.co, .bool x.it, .bool x.un]
def Rn.st (x : Rn) : St := ⟨x.col, x.it, x.un⟩
def atF : List Rn → Nat → Int × St × Bool
 | [], _ => (0, st0, false)
 | x :: t, i => match (chsV x.text)[i]? with
  | some c => (c, x.st, true)
  | none => atF t (i - (chsV x.text).length)
def atR (l : List Rn) (i : Int) : Int × St × Bool := if i < 0 ∨ rowLen l 0 ≤ i then (0, st0, false) else atF l i.toNat
theorem atF_drop {l : List Rn} {k i : Nat} {x : Rn} (hk : l[k]? = some x) : atF (l.drop k) i = match (chsV x.text)[i]? with
  | some c => (c, x.st, true)
  | none => atF (l.drop (k + 1)) (i - (chsV x.text).length) := by
 rw [List.drop_eq_getElem_cons (List.getElem?_eq_some_iff.1 hk).1, (List.getElem?_eq_some_iff.1 hk).2]
 rfl
def AtP (q : Int × St × Bool) (w : World) (e : Ending) (w' : World) : Prop := e = .returned (.tuple #[.int .i32 q.1, q.2.1.v, .bool q.2.2]) ∧ Below w.heap.size w w'
theorem rowat_any (v : Value) (l : List Rn) (i : Int) (w : World) (h : RunsAt w v l) (hl : Sml l) (hi0 : 0 ≤ i) (hi1 : i ≤ 2000000) (hw : Wt w) :
  Calls Tryz.prog 115 #[.agg #[v], .int .i64 i] w (AtP (atR l i) w) := by
 obtain ⟨A, c, rfl⟩ := h.form
 have H := ι h
 have HW := ι hw
 have HL := ι hl
 have hll := hl.1
 have HLN := ι (fun W (hb : Below w.heap.size w W) => slen_any _ l W (SeqAt.ext H.out (Flat.stays _) hb) HL.out (HW.out.on hb))
 obtain ⟨R, hR⟩ : ∃ R, R = rowLen l 0 := ⟨_, rfl⟩
 rw [← hR] at HLN
 obtain ⟨m, rfl⟩ : ∃ m : Nat, i = (m : Int) := ⟨i.toNat, by omega⟩
 have HA := ι (show atR l (m : Int) = if R ≤ (m : Int) then (0, st0, false) else atF l m by
  unfold atR
  rw [← hR]
  by_cases hr : R ≤ (m : Int)
  ·rw [if_pos (.inr hr), if_pos hr]
  rw [if_neg (by omega), if_neg hr, Int.toNat_natCast])
 obtain ⟨Q, hQ⟩ : ∃ Q, Q = atR l (m : Int) := ⟨_, rfl⟩
 rw [← hQ] at HA ⊢
 clear h hw hl hR hQ
 unfold AtP
 have ti : decide ((m : Int) < 0) = false := by simp
 obtain ⟨G, hG⟩ : ∃ G, G = w.heap.size := ⟨_, rfl⟩
 have HG := ι hG
 go_enter Tryz.func115, Tryz.ntmps115
 go_wp2_with fail
 rw [← hG]
 generalize hw1 : World.alloc (World.alloc w _) _ = w1
 have F1 := ι (show Held w1 G [.slice A l.length c] by subst hw1; exact (Held.new hG).alloc _)
 have R1 := ι (show Held w1 (G + 1) st0.cs by subst hw1; exact Held.new (by simp [hG]))
 have B1 := ι (show Below w.heap.size w w1 by subst hw1; exact (Below.more' _ _).alloc (by simp) _)
 clear hw1 hG
 refine (HLN.out w1 B1.out).mono ?_
 rintro e w2 ⟨rfl, hb⟩
 have B2 := ι (B1.out.trans (hb.mono B1.out.size))
 have F2 := ι (F1.out.ext hb)
 have R2 := ι (R1.out.ext hb)
 clear hb F1 R1 B1 HLN
 have hG2 : G + 1 < w2.heap.size := R2.out.lt
 by_cases hr : R ≤ (m : Int)
 ·have t1 : decide (R ≤ (m : Int)) = true := by simpa using hr
  have HA2 := ι (show Q = (0, st0, false) by rw [HA.out, if_pos hr])
  clear HA hr
  have q := R2.out.cell
  have y := R2.out.free
  unfold st0 St.cs at q
  go_wp2_with (with_reducible refine stop_at ?_)
  unfold StopAt
  clear q y
  generalize hw3 : World.setCell _ _ _ = w3
  have H3 := ι (show Held w3 (G + 1) st0.cs by subst hw3; exact R2.out.all st0.cs rfl)
  have B3 := ι (show Below w.heap.size w w3 by subst hw3; exact Below.all (by have := HG.out; omega) st0.cs 0 B2.out)
  have fr := H3.out.cell
  unfold st0 St.cs at fr
  refine bodyPost_ret (by simp [results, Tryz.results115, fr, go_sem]; try rfl) rfl ?_
  rw [HA2.out]
  exact ⟨rfl, B3.out⟩
 have t1 : decide (R ≤ (m : Int)) = false := by simpa using hr
 have HA2 := ι (show Q = atF l m by rw [HA.out, if_neg hr])
 clear HA hr
 have q := F2.out.cell
 go_wp2_with fail
 clear q
 go_loopw [1, 22] (fun iv kv wr => ∃ (j k : Nat), iv = .int .i64 j ∧ kv = .int .i64 k ∧ j ≤ 2000000 ∧ k ≤ l.length ∧ Hid (atF (l.drop k) j = Q) ∧ Hid (Below w2.heap.size w2 wr)) (fun _ kv _ => l.length - (intOf kv).toNat)
 case atStart => exact ⟨m, 0, rfl, rfl, by omega, Nat.zero_le _, ι (by rw [HA2.out]; rfl), ι (Below.refl _ _)⟩
 case round =>
 obtain ⟨j, k, rfl, rfl, hj, hk, HF, BR⟩ := hrel
 have BW := ι (show Below w.heap.size w wr from B2.out.trans (BR.out.mono B2.out.size))
 have RR := ι (R2.out.ext BR.out)
 have hGr : G + 1 < wr.heap.size := RR.out.lt
 by_cases hlt : k < l.length
 ·have hlt2 : (k : Int) < (l.length : Int) := by omega
  obtain ⟨x, hx⟩ : ∃ x, l[k]? = some x := ⟨_, List.getElem?_eq_getElem hlt⟩
  have HD := ι (atF_drop (i := j) hx)
  obtain ⟨b, o, rfl, q0, q1, q2, q3, q4⟩ := RunsAt.get (SeqAt.ext H.out (Flat.stays _) BW.out) hx
  have hxl := (HL.out.2 x (List.mem_of_getElem? hx)).1
  have HCH := ι (fun W (hb : Below wr.heap.size wr W) => chars_any x.text W hxl (HW.out.on (BW.out.trans (hb.mono BW.out.size))))
  have hbr : b < wr.heap.size := World.block_lt_of_cell? wr _ q0
  clear hx
  obtain ⟨C, hC⟩ : ∃ C, C = chsV x.text := ⟨_, rfl⟩
  rw [← hC] at HD HCH
  clear hC hxl
  unfold ChsP at HCH
  go_wp2_with fail
  generalize hw3 : World.alloc wr _ = w3
  have X3 := ι (show Held w3 wr.heap.size x.cs by subst hw3; exact Held.new rfl)
  have B3 := ι (show Below wr.heap.size wr w3 by subst hw3; exact Below.more' _ _)
  clear hw3 q0 q1 q2 q3 q4
  refine (HCH.out w3 B3.out).mono ?_
  rintro e w4 ⟨⟨A4, c4, rfl, hC4⟩, hb⟩
  have X4 := ι (X3.out.ext hb)
  have B4 := ι (B3.out.trans (hb.mono B3.out.size))
  have R4 := ι (RR.out.ext B4.out)
  have HC4 := ι hC4
  have hX4 : wr.heap.size < w4.heap.size := X4.out.lt
  clear hC4 hb X3 B3 HCH
  by_cases hjc : j < C.length
  ·have hjc2 : (j : Int) < (C.length : Int) := by omega
   have tj : decide ((j : Int) < (C.length : Int)) = true := by simpa using hjc2
   obtain ⟨r, hr⟩ : ∃ r, C[j]? = some r := ⟨_, List.getElem?_eq_getElem hjc⟩
   have HF2 := ι (show Q = (r, x.st, true) by rw [← HF.out, HD.out, hr])
   obtain ⟨g, og, hA4, hcell⟩ := HC4.out j (.int .i32 r) (by rw [List.getElem?_map, hr]; rfl)
   subst hA4
   have hg4 : g < w4.heap.size := World.block_lt_of_cell? w4 _ hcell
   clear HF HD hr
   have q := R4.out.cell
   have y := R4.out.free
   have qx := X4.out.cell
   unfold st0 St.cs at q
   unfold Rn.cs at qx
   go_wp2_with fail
   go_region
   clear q y qx hcell
   generalize hw5 : World.drew _ = w5
   have H5 := ι (show Held w5 (G + 1) x.st.cs by subst hw5; exact (R4.out.all x.st.cs rfl))
   have B5 := ι (show Below w.heap.size w w5 by
    subst hw5
    exact (Below.all (B := w.heap.size) (G := G + 1) (by have := HG.out; omega) x.st.cs 0 (BW.out.trans (B4.out.mono BW.out.size))).drew)
   clear hw5
   simp only [Exit.inBlock, Exit.then]
   go_step
   go_wp2_with (with_reducible refine stop_at ?_)
   unfold StopAt
   have fr := H5.out.cell
   unfold Rn.st St.cs at fr
   refine bodyPost_ret (by simp [results, Tryz.results115, fr, go_sem]; try rfl) rfl ?_
   rw [HF2.out]
   exact ⟨rfl, B5.out⟩
  have hjc2 : ¬ (j : Int) < (C.length : Int) := by omega
  have tj : decide ((j : Int) < (C.length : Int)) = false := by simpa using hjc2
  have HF2 := ι (show atF (l.drop (k + 1)) (j - C.length) = Q by rw [← HF.out, HD.out, List.getElem?_eq_none (by omega)])
  have hsub : (j : Int) - (C.length : Int) = ((j - C.length : Nat) : Int) := by omega
  clear HF HD
  go_wp2_with fail
  go_roundw
  case rel => exact ⟨j - C.length, k + 1, by go_num, by go_num, by omega, by omega, HF2, ι (BR.out.trans (B4.out.mono BR.out.size))⟩
  case measure => simp [intOf]; omega
 obtain rfl : k = l.length := by omega
 have HF2 := ι (show Q = (0, st0, false) by rw [← HF.out, List.drop_length]; rfl)
 clear hlt HF
 have q := RR.out.cell
 have y := RR.out.free
 unfold st0 St.cs at q
 go_wp2_with (with_reducible refine stop_at ?_)
 unfold StopAt
 clear q y
 generalize hw3 : World.setCell _ _ _ = w3
 have H3 := ι (show Held w3 (G + 1) st0.cs by subst hw3; exact RR.out.all st0.cs rfl)
 have B3 := ι (show Below w.heap.size w w3 by subst hw3; exact Below.all (by have := HG.out; omega) st0.cs 0 BW.out)
 have fr := H3.out.cell
 unfold st0 St.cs at fr
 refine bodyPost_ret (by simp [results, Tryz.results115, fr, go_sem]; try rfl) rfl ?_
 rw [HF2.out]
 exact ⟨rfl, B3.out⟩
end Go.Proofs.YtmopjhbfobmklaaGreatDoor
