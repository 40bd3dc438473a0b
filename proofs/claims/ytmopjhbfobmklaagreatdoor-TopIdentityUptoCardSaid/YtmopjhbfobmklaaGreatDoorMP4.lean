/-
  The contracts of At of documents, of cell and of Equal at glyphs. Their conditions are their hypotheses.
-/
import Derived.Test.YtmopjhbfobmklaaGreatDoorMP3
set_option maxRecDepth 100000
set_option maxHeartbeats 40000000
namespace Go.Proofs.YtmopjhbfobmklaaGreatDoor
open Go.RowKit Go.Joins
set_option linter.unusedVariables false
set_option linter.unusedSimpArgs false
def idxF (f : Int) : Nat → List Ev → List Nat
 | _, [] => []
 | k, x :: t => (if x.i ≤ f ∧ f < x.o then [k] else []) ++ idxF f (k + 1) t
theorem idxF_app (f : Int) : ∀ (E F : List Ev) (k : Nat), idxF f k (E ++ F) = idxF f k E ++ idxF f (k + E.length) F
 | [], F, k => by simp [idxF]
 | x :: t, F, k => by
  rw [List.cons_append, idxF, idxF, idxF_app f t F (k + 1), List.append_assoc, List.length_cons, show k + 1 + t.length = k + (t.length + 1) by omega]
theorem idxF_step {f : Int} {E : List Ev} {k : Nat} {x : Ev} (h : E[k]? = some x) : idxF f 0 (E.take (k + 1)) = idxF f 0 (E.take k) ++ (if x.i ≤ f ∧ f < x.o then [k] else []) := by
 rw [List.take_add_one, h, Option.toList_some, idxF_app, List.length_take, Nat.min_eq_left (Nat.le_of_lt (List.getElem?_eq_some_iff.1 h).1), Nat.zero_add]
 simp [idxF]
theorem idxF_len (f : Int) : ∀ (E : List Ev) (k : Nat), (idxF f k E).length ≤ E.length
 | [], _ => Nat.le_refl _
 | x :: t, k => by
  have := idxF_len f t (k + 1)
  rw [idxF, List.length_append, List.length_cons]
  split <;> simp <;> omega
theorem idxF_lt (f : Int) : ∀ (E : List Ev) (k : Nat), ∀ i ∈ idxF f k E, k ≤ i ∧ i < k + E.length
 | [], _, i, h => by cases h
 | x :: t, k, i, h => by
  rw [idxF] at h
  rw [List.length_cons]
  rcases List.mem_append.1 h with h | h
  ·split at h
   ·rcases List.mem_singleton.1 h with rfl
    omega
   cases h
  have := idxF_lt f t (k + 1) i h
  omega
def IdxP (L : List Int) (w : World) (e : Ending) (w' : World) : Prop := (∃ v, e = .returned v ∧ w'.ownsRow w.heap.size 3 1 v L.length (L.map (Value.int .i64))) ∧ Below w.heap.size w w'
abbrev intsN (l : List Nat) : List Int := l.map fun i : Nat => (i : Int)
theorem dat_any (d : Dc) (rv ev cv : Value) (f : Int) (w : World) (h : EvsAt w ev d.evs) (hl : d.evs.length ≤ 2000000) :
  Calls Tryz.prog 75 #[d.v rv ev cv, .int .i64 f] w (IdxP (intsN (idxF f 0 d.evs)) w) := by
 obtain ⟨i0, hi, hz0, hz1, hz2⟩ := info_parts infoI
 have HI0 := ι (And.intro hi (And.intro hz0 (And.intro hz1 hz2)))
 clear hi hz0 hz1 hz2
 obtain ⟨A, cp, rfl⟩ := h.form
 have H := ι h
 clear h
 have hr : ∀ q, d.v rv q cv = .agg #[.string (sB d.title), .string (sB d.lang), .int .u8 d.rate, .bool d.drop, .int .i64 d.last, rv, q, cv] := fun _ => rfl
 rw [hr]
 clear hr
 obtain ⟨D, hD⟩ : ∃ D, D = w.heap.size := ⟨_, rfl⟩
 have HD := ι hD
 go_enter Tryz.func75, Tryz.ntmps75
 go_wp2_with fail
 rw [← hD]
 generalize hw1 : World.alloc w _ = w1
 have B1 := ι (show Below w.heap.size w w1 by subst hw1; exact Below.more' _ _)
 have hN : w.heap.size ≤ w1.heap.size := B1.out.size
 clear hw1 hD
 obtain ⟨n, hn⟩ : ∃ n, n = d.evs.length := ⟨_, rfl⟩
 rw [← hn] at hl ⊢
 have HN := ι hn
 clear hn
 go_loopw [5, 11] (fun ov kv wr => ∃ (k : Nat) (uv : Value), uv = ov ∧ kv = .int .i64 k ∧ k ≤ n ∧ Hid (wr.ownsRow w1.heap.size 3 1 uv (intsN (idxF f 0 (d.evs.take k))).length ((intsN (idxF f 0 (d.evs.take k))).map (Value.int .i64))) ∧ Hid (Below w1.heap.size w1 wr)) (fun _ kv _ => n - (intOf kv).toNat)
 case atStart => exact ⟨0, _, rfl, rfl, Nat.zero_le _, ι (World.ownsRow_nil _ _ _ _), ι (Below.refl _ _)⟩
 case round =>
 obtain ⟨k, uv, rfl, rfl, hk, OW, BR⟩ := hrel
 have BW := ι (B1.out.trans (BR.out.mono hN))
 by_cases hlt : k < n
 ·have hlt2 : (k : Int) < (n : Int) := by omega
  obtain ⟨x, hx⟩ : ∃ x, d.evs[k]? = some x := ⟨_, List.getElem?_eq_getElem (by have := HN.out; omega)⟩
  have HST := ι (idxF_step (f := f) hx)
  obtain ⟨b, o, r, rfl, ⟨q0, q1, q2, q3, q4, q5, q6⟩, hrr⟩ := EvsAt.get (SeqAt.ext H.out EvC.stays BW.out) hx
  obtain ⟨rA, rc, rfl⟩ := hrr.form
  have hbr : b < wr.heap.size := World.block_lt_of_cell? wr _ q0
  have hml := idxF_len f (d.evs.take k) 0
  rw [List.length_take] at hml
  have hml2 : (intsN (idxF f 0 (d.evs.take k))).length ≤ 2000000 := by unfold intsN; rw [List.length_map]; omega
  clear hx hrr hml
  have hs1 : w1.heap.size ≤ wr.heap.size := BR.out.size
  generalize idxF f 0 (d.evs.take k) = M at *
  by_cases h1 : x.i ≤ f ∧ f < x.o
  ·have t1 : decide (x.i ≤ f) = true := by simpa using h1.1
   have t2 : decide (f < x.o) = true := by simpa using h1.2
   have HST2 := ι (show intsN (idxF f 0 (d.evs.take (k + 1))) = intsN M ++ [(k : Int)] by rw [HST.out, if_pos h1]; simp [intsN])
   clear HST h1
   generalize intsN M = K at *
   go_wp2_with (at_builtin; go_loud (refine wpList_append_own _ rfl _ _ 152 rfl w1.heap.size 3 i0 (.int .i64 0) 1 8 Tryz.underlying152 HI0.out.1 HI0.out.2.1 HI0.out.2.2.1 HI0.out.2.2.2 rfl (by decide) _ K.length _ rfl (own_ext (own_ext OW.out (Below.more' _ _)) (Below.more' _ _)) ⟨wr.heap.size + 1, 0, none⟩ 1 1 [.int .i64 (k : Int)] rfl rfl (CellsAt.all (by simp [CellsAt, go_sem])) (by simp [Value.oneCell']) (by simp only [maxLen]; omega) (by omega) (by simp; omega) ?_))
   intro v4 w4 ho4 hgr4 _
   have HO4 := ι (show w4.ownsRow w1.heap.size 3 1 v4 (intsN (idxF f 0 (d.evs.take (k + 1)))).length ((intsN (idxF f 0 (d.evs.take (k + 1)))).map (Value.int .i64)) by rw [HST2.out, List.length_append, List.map_append]; exact ho4)
   have BR4 := ι (show Below w1.heap.size w1 w4 from ((BR.out.alloc hs1 _).alloc (by simp; omega) _).grown hgr4 (by simp; omega) (own_base OW.out))
   clear ho4 hgr4 OW BR q0 q1 q2 q3 q4 q5 q6
   go_wp2_with fail
   go_roundw
   case rel => exact ⟨k + 1, _, rfl, by go_num, by omega, HO4, BR4⟩
   case measure => simp [intOf]; omega
  have HST2 := ι (show idxF f 0 (d.evs.take (k + 1)) = M by rw [HST.out, if_neg h1, List.append_nil])
  clear HST
  by_cases h2 : x.i ≤ f
  ·have t1 : decide (x.i ≤ f) = true := by simpa using h2
   have t2 : decide (f < x.o) = false := by simp; omega
   clear h1 h2
   go_wp2_with fail
   go_roundw
   case rel => exact ⟨k + 1, _, rfl, by go_num, by omega, by rw [HST2.out]; exact ι (own_ext OW.out (Below.more' _ _)), ι (BR.out.alloc hs1 _)⟩
   case measure => simp [intOf]; omega
  have t1 : decide (x.i ≤ f) = false := by simpa using h2
  clear h1 h2
  go_wp2_with fail
  go_roundw
  case rel => exact ⟨k + 1, _, rfl, by go_num, by omega, by rw [HST2.out]; exact ι (own_ext OW.out (Below.more' _ _)), ι (BR.out.alloc hs1 _)⟩
  case measure => simp [intOf]; omega
 obtain rfl : k = n := by omega
 rw [HN.out, List.take_length] at OW
 have HO2 := ι (ownsRow_mono OW.out hN)
 clear hlt OW
 go_wp2_with fail
 go_ret
 exact ⟨⟨_, rfl, HO2.out⟩, BW.out⟩
def cellG (g : Gl) : Int := g.row * 32 + g.col
theorem cell_any (g : Gl) (w : World) (h : (0 ≤ g.row ∧ g.row ≤ 14) ∧ 0 ≤ g.col ∧ g.col ≤ 31) :
  Calls Tryz.prog 77 #[g.v] w fun e w' => e = .returned (.int .i64 (cellG g)) ∧ Below w.heap.size w w' := by
 have w1 : IntKind.i64.wrap (g.row * 32) = g.row * 32 := by rw [IntKind.wrap_i64]; omega
 have w2 : IntKind.i64.wrap (g.row * 32 + g.col) = g.row * 32 + g.col := by rw [IntKind.wrap_i64]; omega
 have HC := ι (show cellG g = g.row * 32 + g.col from rfl)
 go_enter Tryz.func77, Tryz.ntmps77
 go_wp2_with fail
 go_ret
 exact ⟨by rw [HC.out]; rfl, Below.more' _ _⟩
instance : DecidableEq Gl := fun a b =>
 if h : a.row = b.row ∧ a.col = b.col ∧ a.ch = b.ch ∧ a.co = b.co ∧ a.it = b.it ∧ a.un = b.un then .isTrue (by
  obtain ⟨h1, h2, h3, h4, h5, h6⟩ := h
  cases a; cases b
  simp only at h1 h2 h3 h4 h5 h6
  subst h1; subst h2; subst h3; subst h4; subst h5; subst h6
  rfl)
 else .isFalse (fun e => h (by subst e; exact ⟨rfl, rfl, rfl, rfl, rfl, rfl⟩))
def neB (x y : Gl) : Bool := decide (x ≠ y)
theorem glne_run (x y : Gl) (w : World) : (Go.binOp .neq 112 x.v y.v).run Tryz.prog w = Result.ok (.bool (neB x y)) w := by
 unfold neB
 cases x; cases y
 simp [go_sem]
 repeat' split
 all_goals simp_all
theorem glneg_run (a b : Operand) (x y : Gl) (w : World) : (eqGuard .neq 112 a b x.v y.v).run Tryz.prog w = Result.ok () w := by
 simp [go_sem]
theorem GlsAt.get {w : World} {A : Option Addr} {n c : Nat} {xs : List Gl} (h : GlsAt w (.slice A n c) xs) {k : Nat} {x : Gl} (hx : xs[k]? = some x) :
  ∃ b o, A = some ⟨b, o, none⟩ ∧ w.cell? ⟨b, o + k * 6, none⟩ = some (.int .i64 x.row) ∧ w.cell? ⟨b, o + k * 6 + 1, none⟩ = some (.int .i64 x.col) ∧ w.cell? ⟨b, o + k * 6 + 2, none⟩ = some (.int .i32 x.ch) ∧ w.cell? ⟨b, o + k * 6 + 3, none⟩ = some (.int .u8 x.co) ∧ w.cell? ⟨b, o + k * 6 + 4, none⟩ = some (.bool x.it) ∧ w.cell? ⟨b, o + k * 6 + 5, none⟩ = some (.bool x.un) := by
 obtain ⟨b, o, cs, e1, e2, e3, e4⟩ := SeqAt.get h hx
 have e4 : cs = x.cs := e4
 subst e4
 exact ⟨b, o, e1, e3 0 _ rfl, e3 1 _ rfl, e3 2 _ rfl, e3 3 _ rfl, e3 4 _ rfl, e3 5 _ rfl⟩
theorem drop_eqG {X Y : List Gl} {k : Nat} {x y : Gl} (hx : X[k]? = some x) (hy : Y[k]? = some y) : decide (X.drop k = Y.drop k) = (!neB x y && decide (X.drop (k + 1) = Y.drop (k + 1))) := by
 rw [List.drop_eq_getElem_cons (List.getElem?_eq_some_iff.1 hx).1, (List.getElem?_eq_some_iff.1 hx).2, List.drop_eq_getElem_cons (List.getElem?_eq_some_iff.1 hy).1, (List.getElem?_eq_some_iff.1 hy).2]
 unfold neB
 by_cases h : x = y
 ·simp [h]
 simp [h]
theorem equal_any (v1 v2 : Value) (X Y : List Gl) (w : World) (h1 : GlsAt w v1 X) (h2 : GlsAt w v2 Y) (hl : X.length ≤ 1000000) :
  Calls Tryz.prog 42 #[v1, v2] w fun e w' => e = .returned (.bool (decide (X = Y))) ∧ Below w.heap.size w w' := by
 obtain ⟨A, c, rfl⟩ := h1.form
 obtain ⟨A2, c2, rfl⟩ := h2.form
 have H1 := ι h1
 have H2 := ι h2
 obtain ⟨Q, hQ⟩ : ∃ Q, Q = decide (X = Y) := ⟨_, rfl⟩
 rw [← hQ]
 have HQ := ι hQ
 have hng := glneg_run
 clear h1 h2 hQ
 by_cases hlen : X.length = Y.length
 ·obtain ⟨n, hn⟩ : ∃ n, n = X.length := ⟨_, rfl⟩
  have HN := ι hn
  have HN2 := ι (hn.trans hlen)
  rw [← hlen, ← hn]
  rw [← hn] at hl
  have e1 := H1.out
  have e2 := H2.out
  rw [← hn] at e1
  rw [← hlen, ← hn] at e2
  have HX := ι e1
  have HY := ι e2
  clear hlen hn H1 H2 e1 e2
  have tn : ((n : Int) != (n : Int)) = false := by simp
  go_enter Tryz.func42, Tryz.ntmps42
  go_wp2_with fail
  go_loopw [13] (fun kv wr => ∃ k : Nat, kv = .int .i64 k ∧ k ≤ n ∧ Hid (decide (X.drop k = Y.drop k) = Q) ∧ Hid (Below w.heap.size w wr)) (fun kv _ => n - (intOf kv).toNat)
  case atStart => exact ⟨0, rfl, Nat.zero_le _, ι HQ.out.symm, ι (Below.refl _ _)⟩
  case round =>
  obtain ⟨k, rfl, hk, HF, BW⟩ := hrel
  by_cases hlt : k < n
  ·have hlt2 : (k : Int) < (n : Int) := by omega
   obtain ⟨x, hx⟩ : ∃ x, X[k]? = some x := ⟨_, List.getElem?_eq_getElem (by have := HN.out; omega)⟩
   obtain ⟨y, hy⟩ : ∃ y, Y[k]? = some y := ⟨_, List.getElem?_eq_getElem (by have := HN2.out; omega)⟩
   have HD := ι (drop_eqG hx hy)
   obtain ⟨b, o, rfl, p0, p1, p2, p3, p4, p5⟩ := GlsAt.get (SeqAt.ext HX.out (Flat.stays _) BW.out) hx
   obtain ⟨b2, o2, rfl, q0, q1, q2, q3, q4, q5⟩ := GlsAt.get (SeqAt.ext HY.out (Flat.stays _) BW.out) hy
   obtain ⟨q, hq⟩ : ∃ q, q = neB x y := ⟨_, rfl⟩
   rw [← hq] at HD
   have hb1 : b < wr.heap.size := World.block_lt_of_cell? wr _ p0
   have hb2 : b2 < wr.heap.size := World.block_lt_of_cell? wr _ q0
   have hxy : ∀ W, (Go.binOp .neq 112 (.agg #[.int .i64 x.row, .int .i64 x.col, .int .i32 x.ch, .int .u8 x.co, .bool x.it, .bool x.un]) (.agg #[.int .i64 y.row, .int .i64 y.col, .int .i32 y.ch, .int .u8 y.co, .bool y.it, .bool y.un])).run Tryz.prog W = Result.ok (.bool q) W := fun W => by rw [hq]; exact glne_run x y W
   clear hx hy hq
   go_wp2_with fail
   cases q with
   | true =>
    have HF2 := ι (show Q = false by rw [← HF.out, HD.out]; rfl)
    clear HF HD
    go_region
    simp only [Exit.inBlock, Exit.then]
    go_step
    go_wp2_with fail
    go_ret
    exact ⟨by rw [HF2.out]; rfl, BW.out.drew⟩
   | false =>
    have HF2 := ι (show decide (X.drop (k + 1) = Y.drop (k + 1)) = Q by rw [← HF.out, HD.out]; simp)
    clear HF HD
    go_region
    simp only [Exit.inBlock, Exit.then]
    go_step
    go_wp2_with fail
    go_roundw
    case rel => exact ⟨k + 1, by go_num, by omega, HF2, ι BW.out.drew⟩
    case measure => simp [intOf]; omega
  obtain rfl : k = n := by omega
  have HF2 := ι (show Q = true by rw [← HF.out, HN.out, List.drop_length, ← HN.out, HN2.out, List.drop_length]; rfl)
  go_wp2_with fail
  go_ret
  exact ⟨by rw [HF2.out]; rfl, BW.out⟩
 have HQ2 := ι (show Q = false by rw [HQ.out]; exact decide_eq_false (fun e => hlen (by rw [e])))
 have tn : ((X.length : Int) != (Y.length : Int)) = true := by simp; omega
 go_enter Tryz.func42, Tryz.ntmps42
 go_wp2_with fail
 go_ret
 exact ⟨by rw [HQ2.out]; rfl, Below.refl _ _⟩
end Go.Proofs.YtmopjhbfobmklaaGreatDoor
