/-
  Len, lost, part, lang; the sort of regions; regions. The conditions of the contracts are their hypotheses.
-/
import Derived.Test.YtmopjhbfobmklaaGreatDoorMH4
import Derived.Test.YtmopjhbfobmklaaGreatDoorMCx
import Derived.Test.YtmopjhbfobmklaaGreatDoorMBu
set_option maxRecDepth 100000
set_option maxHeartbeats 40000000
namespace Go.Proofs.YtmopjhbfobmklaaGreatDoor
open Go.RowKit Go.Joins
set_option linter.unusedVariables false
set_option linter.unusedSimpArgs false
theorem len_any (A : Option Addr) (c : Nat) (L : List Spn) (w : World) (h : SpAt w A L) (hl : L.length ≤ 1000000) :
  Calls Tryz.prog 15 #[.slice A L.length c] w fun e w' => e = .returned (.tuple #[.int .i64 (lnS L).1, .int .i64 (lnS L).2]) ∧ Below w.heap.size w w' := by
 have H := ι h
 obtain ⟨D, hD⟩ : ∃ D, D = w.heap.size := ⟨_, rfl⟩
 have HD := ι hD
 rw [← hD]
 obtain ⟨R, hR⟩ : ∃ R, R = lnS L := ⟨_, rfl⟩
 rw [← hR]
 by_cases h0 : chkS L = 0
 ·have H0 := ι h0
  have hlen := (chkS_ok.1 h0).1
  have HBD := ι (fun (k : Nat) => lenS_take h0 k)
  obtain ⟨S, hS⟩ : ∃ S, S = lenS L := ⟨_, rfl⟩
  have HS := ι hS
  obtain rfl : R = (S, 0) := by rw [hR, hS]; unfold lnS; rw [if_pos h0]
  clear h h0 hR hS hD
  go_enter Tryz.func15, Tryz.ntmps15
  go_wp2_with fail
  refine (chk_any A c L w H.out (by omega)).mono ?_
  rintro e w1 ⟨rfl, hb⟩
  rw [H0.out]
  have G1 := ι (show Below D w w1 from HD.out ▸ hb)
  clear hb
  go_wp2_with fail
  go_loopw [5, 15] (fun s i wr => ∃ k : Nat, k ≤ L.length ∧ s = .int .i64 (lenS (L.take k)) ∧ i = .int .i64 k ∧ Hid (Below D w wr)) (fun _ i _ => L.length - (intOf i).toNat)
  case atStart => exact ⟨0, by omega, rfl, rfl, G1⟩
  case round =>
  obtain ⟨k, hk, rfl, rfl, G⟩ := hrel
  have hDw : D ≤ wr.heap.size := by have := G.out.size; have := HD.out; omega
  by_cases hlt : k < L.length
  ·have hlt2 : (k : Int) < (L.length : Int) := by omega
   obtain ⟨x, hx⟩ : ∃ x, L[k]? = some x := ⟨_, List.getElem?_eq_getElem hlt⟩
   have HRw := H.out.ext (HD.out ▸ G.out)
   obtain ⟨g, o, rfl⟩ := SpAt.some HRw hx
   obtain ⟨q0, q1⟩ := SpAt.get HRw hx
   obtain ⟨b1, b2, b3⟩ := HBD.out k x hx
   have hst := lenS_step hx
   generalize lenS (L.take k) = a at *
   have w1 : IntKind.i64.wrap (x.o - x.i) = x.o - x.i := by rw [IntKind.wrap_i64]; omega
   have w2 : IntKind.i64.wrap (a + (x.o - x.i)) = a + (x.o - x.i) := by rw [IntKind.wrap_i64]; omega
   have HST := ι hst
   clear HRw hx b1 b2 b3 hst
   go_wp2_with fail
   go_roundw
   case rel => exact ⟨k + 1, by omega, by rw [HST.out], by go_num, ι (G.out.alloc hDw _)⟩
   case measure => simp [intOf]; omega
  obtain rfl : k = L.length := by omega
  rw [List.take_length, ← HS.out]
  clear hlt
  go_wp2_with fail
  go_ret2
  exact ⟨rfl, G.out⟩
 obtain ⟨E, hE⟩ : ∃ E, E = chkS L := ⟨_, rfl⟩
 obtain rfl : R = (0, E) := by rw [hR, hE]; unfold lnS; rw [if_neg h0]
 have HE := ι hE
 have hc2 : (E == 0) = false := by rw [hE]; simpa using h0
 clear h h0 hR hE hD
 go_enter Tryz.func15, Tryz.ntmps15
 go_wp2_with fail
 refine (chk_any A c L w H.out (by omega)).mono ?_
 rintro e w1 ⟨rfl, hb⟩
 rw [← HE.out]
 have HBL := ι (show Below D w w1 from HD.out ▸ hb)
 clear hb
 go_wp2_with fail
 go_ret2
 exact ⟨rfl, HBL.out⟩
def lostV (s : Spn) (L : List Spn) : Int := (lnS (subS [s] L).1).1
theorem sub_one_len (s : Spn) (L : List Spn) : (subS [s] L).1.length ≤ 400 := by
 unfold subS
 split
 ·unfold limS
  split
  ·simp
  rename_i h
  simp only []
  omega
 simp
theorem lost_any (s : Spn) (P : Option Addr) (c : Nat) (L : List Spn) (w : World) (h : SpAt w P L) (hl : L.length ≤ 900) :
  Calls Tryz.prog 26 #[spA s, .slice P L.length c] w fun e w' => e = .returned (.int .i64 (lostV s L)) ∧ Below w.heap.size w w' := by
 have HS := ι h
 clear h
 obtain ⟨M, hM⟩ : ∃ M, M = (subS [s] L).1 := ⟨_, rfl⟩
 have HM := ι (show lostV s L = (lnS M).1 by rw [hM]; rfl)
 have hml : M.length ≤ 400 := by rw [hM]; exact sub_one_len s L
 have HMM := ι hM
 clear hM
 obtain ⟨D, hD⟩ : ∃ D, D = w.heap.size := ⟨_, rfl⟩
 have HD := ι hD
 go_enter Tryz.func26, Tryz.ntmps26
 go_wp2_with fail
 rw [← hD]
 generalize hw1 : World.alloc (World.alloc w _) _ = w1
 have F1 := ι (show Held w1 (D + 1) [.int .i64 s.i, .int .i64 s.o] by subst hw1; exact Held.new (by simp [hD]))
 have B1 := ι (show Below w.heap.size w w1 by subst hw1; exact (Below.more' _ _).alloc (by simp) _)
 clear hw1 hD
 refine (sub_any (some ⟨D + 1, 0, none⟩) 1 [s] P c L w1 (one_row F1.out) (HS.out.ext B1.out) (by simp) hl).mono ?_
 unfold RetP
 rintro e w2 ⟨⟨v, rfl, ho⟩, hb⟩
 have B2 := ι (B1.out.trans (hb.mono B1.out.size))
 rw [← HMM.out] at ho
 obtain ⟨A3, c3, e3, hr3, _⟩ := row_of_ownK ho
 subst e3
 have HR3 := ι hr3
 clear ho hb hr3
 go_wp2_with fail
 refine (len_any A3 c3 M w2 HR3.out (by omega)).mono ?_
 rintro e w3 ⟨rfl, hb⟩
 have B3 := ι (B2.out.trans (hb.mono B2.out.size))
 clear hb
 go_wp2_with fail
 go_ret
 exact ⟨by rw [HM.out]; rfl, B3.out⟩
def hdV : List Spn → Spn × Bool
 | [] => (⟨0, 0⟩, false)
 | x :: _ => (x, true)
def partV (c : Ct) (s : Spn) : Spn × Bool := hdV (preP [pcOf c] s).1
theorem part_any (c : Ct) (s : Spn) (w : World) (hc : CtOk c) :
  Calls Tryz.prog 33 #[c.v, spA s] w fun e w' => e = .returned (.tuple #[spA (partV c s).1, .bool (partV c s).2]) ∧ Below w.heap.size w w' := by
 have HFR := ι (show Frp [pcOf c] from fun x hx => by rcases List.mem_singleton.1 hx with rfl; exact hc)
 clear hc
 obtain ⟨M, hM⟩ : ∃ M, M = (preP [pcOf c] s).1 := ⟨_, rfl⟩
 obtain ⟨R, hR⟩ : ∃ R, R = partV c s := ⟨_, rfl⟩
 have HP := ι (show R = hdV M by rw [hR, hM]; rfl)
 rw [← hR]
 have HM := ι hM
 clear hR hM
 obtain ⟨D, hD⟩ : ∃ D, D = w.heap.size := ⟨_, rfl⟩
 rw [show c.v = .agg #[.int .i64 c.num, .string (sB c.reel), .int .i64 c.src, .int .i64 c.i, .int .i64 c.o, .int .i64 c.sn, .int .i64 c.sd] from rfl]
 go_enter Tryz.func33, Tryz.ntmps33
 go_wp2_with fail
 rw [← hD]
 generalize hw1 : World.alloc (World.alloc (World.alloc (World.alloc w _) _) _) _ = w1
 have e1 : ∀ (W : World) o, (W.alloc o).heap.size = W.heap.size + 1 := fun W o => by simp
 have F1 := ι (show Held w1 (D + 2) [.int .i64 0, .int .i64 0] by subst hw1; exact Held.alloc (Held.new (by rw [e1, e1, hD])) _)
 have P1 := ι (show Held w1 (D + 3) [.int .i64 c.i, .int .i64 c.o, .int .i64 c.src, .int .i64 c.sn, .int .i64 c.sd] by subst hw1; exact Held.new (by rw [e1, e1, e1, hD]))
 have B1 := ι (show Below w.heap.size w w1 by subst hw1; exact (((Below.more' _ _).alloc (by rw [e1]; omega) _).alloc (by rw [e1, e1]; omega) _).alloc (by rw [e1, e1, e1]; omega) _)
 have HDE := ι hD
 clear hw1 hD e1
 refine (pre_any (some ⟨D + 3, 0, none⟩) 1 [pcOf c] s w1 (row_of_cells (k := 0) (CellsAt.of_all (fun j u hu => by rw [Addr.add_lit, Nat.zero_add, P1.out.cell]; exact hu))) HFR.out (by simp)).mono ?_
 unfold RetP
 rintro e w2 ⟨⟨v, rfl, ho⟩, hb⟩
 have B2 := ι (B1.out.trans (hb.mono B1.out.size))
 have F2 := ι (F1.out.ext hb)
 rw [← HM.out] at ho
 obtain ⟨A3, c3, e3, hr3, _⟩ := row_of_ownK ho
 subst e3
 have HR3 := ι hr3
 clear ho hb hr3 F1 B1 P1
 have rq := F2.out.cell
 have ry := F2.out.free
 have hR2 := F2.out.lt
 cases M with
 | nil =>
  have HP2 := ι (show R = (⟨0, 0⟩, false) from HP.out)
  go_wp2_with (with_reducible refine stop_at ?_)
  unfold StopAt
  clear rq ry
  generalize hw3 : World.setCell _ _ _ = w3
  have H3 := ι (show Held w3 (D + 2) [.int .i64 0, .int .i64 0] by subst hw3; exact F2.out.all [.int .i64 0, .int .i64 0] rfl)
  have B3 := ι (show Below w.heap.size w w3 by subst hw3; exact Below.all (by have := HDE.out; omega) [.int .i64 0, .int .i64 0] 0 B2.out)
  have fr := H3.out.cell
  refine bodyPost_ret (by simp [results, Tryz.results33, fr, go_sem]; try rfl) rfl ?_
  rw [HP2.out]
  exact ⟨rfl, B3.out⟩
 | cons x r =>
  have HP2 := ι (show R = (x, true) from HP.out)
  obtain ⟨g, o, rfl⟩ := SpAt.some HR3.out (k := 0) (x := x) rfl
  obtain ⟨q0, q1⟩ := SpAt.get HR3.out (k := 0) (x := x) rfl
  have hgr : g < w2.heap.size := World.block_lt_of_cell? w2 _ q0
  rw [Nat.zero_mul, Nat.add_zero] at q0 q1
  have hn0 : (0 : Int) < ((x :: r).length : Int) := by simp only [List.length_cons]; omega
  obtain ⟨n, hn⟩ : ∃ n, n = (x :: r).length := ⟨_, rfl⟩
  rw [← hn] at hn0 ⊢
  have hn1 : ((n : Int) == 0) = false := by simp; omega
  have hn2 : (n == 0) = false := by simp; omega
  have hn3 : 0 < n := by omega
  clear hn
  go_wp2_with (with_reducible refine stop_at ?_)
  unfold StopAt
  clear rq ry q0 q1
  generalize hw3 : World.setCell _ _ _ = w3
  have H3 := ι (show Held w3 (D + 2) [.int .i64 x.i, .int .i64 x.o] by subst hw3; exact F2.out.all [.int .i64 x.i, .int .i64 x.o] rfl)
  have B3 := ι (show Below w.heap.size w w3 by subst hw3; exact Below.all (by have := HDE.out; omega) [.int .i64 x.i, .int .i64 x.o] 0 B2.out)
  have fr := H3.out.cell
  refine bodyPost_ret (by simp [results, Tryz.results33, fr, go_sem]; try rfl) rfl ?_
  rw [HP2.out]
  exact ⟨rfl, B3.out⟩
def langL : List UInt8 → Nat → List Rd → List UInt8
 | s, _, [] => s
 | s, k, x :: t => if 0 < k ∧ x.doc.lang ≠ s then [] else langL x.doc.lang (k + 1) t
theorem langL_drop {s : List UInt8} {l : List Rd} {k : Nat} {x : Rd} (hk : l[k]? = some x) : langL s k (l.drop k) = if 0 < k ∧ x.doc.lang ≠ s then [] else langL x.doc.lang (k + 1) (l.drop (k + 1)) := by
 rw [List.drop_eq_getElem_cons (List.getElem?_eq_some_iff.1 hk).1, (List.getElem?_eq_some_iff.1 hk).2]
 rfl
theorem lang_any (v : Value) (l : List Rd) (w : World) (h : RdsAt w v l) (hl : l.length ≤ 2000000) :
  Calls Tryz.prog 27 #[v] w fun e w' => e = .returned (.string (sB (langL [] 0 l))) ∧ Below w.heap.size w w' := by
 obtain ⟨A, cp, rfl⟩ := h.form
 have H := ι h
 clear h
 go_enter Tryz.func27, Tryz.ntmps27
 go_wp2_with fail
 go_loopw [3, 8] (fun sv i wr => ∃ (k : Nat) (s : List UInt8), k ≤ l.length ∧ sv = .string (sB s) ∧ i = .int .i64 k ∧ Hid (langL s k (l.drop k) = langL [] 0 l) ∧ Hid (Below w.heap.size w wr)) (fun _ i _ => l.length - (intOf i).toNat)
 case atStart => exact ⟨0, [], Nat.zero_le _, rfl, rfl, ι rfl, ι (Below.refl _ _)⟩
 case round =>
 obtain ⟨k, s, hk, rfl, rfl, HF, BW⟩ := hrel
 by_cases hlt : k < l.length
 ·have hlt2 : (k : Int) < (l.length : Int) := by omega
  obtain ⟨x, hx⟩ : ∃ x, l[k]? = some x := ⟨_, List.getElem?_eq_getElem hlt⟩
  have HD := ι (langL_drop (s := s) hx)
  obtain ⟨b, o, r, e, q, rfl, ⟨q0, q1, q2, q3, q4, q5, q6, q7, q8⟩, hd⟩ := RdsAt.get2 H.out BW.out hx
  obtain ⟨rA, rc, rfl⟩ := hd.regs.form
  obtain ⟨eA, ec, rfl⟩ := hd.evs.form
  obtain ⟨sA, sc, rfl⟩ := hd.cms.form
  have hbr : b < wr.heap.size := World.block_lt_of_cell? wr _ q0
  clear hx hd
  by_cases hk0 : 0 < k
  ·have hk1 : (0 : Int) < (k : Int) := by omega
   by_cases hn : x.doc.lang = s
   ·have t1 : ((sB x.doc.lang).toList != (sB s).toList) = false := by rw [bne, str_eq]; simpa using hn
    have t2 : ((sB x.doc.lang).toList == (sB s).toList) = true := by rw [str_eq]; simpa using hn
    have HF2 := ι (show langL x.doc.lang (k + 1) (l.drop (k + 1)) = langL [] 0 l by rw [← HF.out, HD.out, if_neg (by simp [hn])])
    clear HF HD hk0 hn
    go_wp2_with fail
    go_roundw
    case rel => exact ⟨k + 1, x.doc.lang, by omega, rfl, by go_num, HF2, ι (BW.out.alloc BW.out.size _)⟩
    case measure => simp [intOf]; omega
   have t1 : ((sB x.doc.lang).toList != (sB s).toList) = true := by rw [bne, str_eq]; simpa using hn
   have t2 : ((sB x.doc.lang).toList == (sB s).toList) = false := by rw [str_eq]; simpa using hn
   have HF2 := ι (show langL [] 0 l = [] by rw [← HF.out, HD.out, if_pos ⟨hk0, hn⟩])
   clear HF HD hk0 hn
   go_wp2_with fail
   go_ret
   exact ⟨by rw [HF2.out]; rfl, BW.out.alloc BW.out.size _⟩
  have hk1 : ¬ (0 : Int) < (k : Int) := by omega
  have HF2 := ι (show langL x.doc.lang (k + 1) (l.drop (k + 1)) = langL [] 0 l by rw [← HF.out, HD.out, if_neg (fun h => hk0 h.1)])
  clear HF HD hk0
  go_wp2_with fail
  go_roundw
  case rel => exact ⟨k + 1, x.doc.lang, by omega, rfl, by go_num, HF2, ι (BW.out.alloc BW.out.size _)⟩
  case measure => simp [intOf]; omega
 obtain rfl : k = l.length := by omega
 have HF2 := ι (show langL [] 0 l = s by rw [← HF.out, List.drop_length]; rfl)
 clear hlt HF
 go_wp2_with fail
 go_ret
 exact ⟨by rw [HF2.out]; rfl, BW.out⟩
open Go.RowKit Go.Joins Go.Sort
abbrev cmpB := Lib.compareBytes
theorem cmp_self : ∀ a : List UInt8, cmpB a a = 0
 | [] => rfl
 | x :: r => by
  show (if x < x then (-1 : Int) else if x < x then 1 else cmpB r r) = 0
  rw [if_neg (UInt8.lt_irrefl x), if_neg (UInt8.lt_irrefl x)]
  exact cmp_self r
theorem cmp_zero : ∀ {a b : List UInt8}, cmpB a b = 0 → a = b
 | [], [], _ => rfl
 | [], _ :: _, h => by cases h
 | _ :: _, [], h => by cases h
 | x :: r, y :: t, h => by
  have h' : (if x < y then (-1 : Int) else if y < x then 1 else cmpB r t) = 0 := h
  split at h'
  ·cases h'
  split at h'
  ·cases h'
  rename_i h1 h2
  rw [cmp_zero h', UInt8.le_antisymm (UInt8.not_lt.1 h2) (UInt8.not_lt.1 h1)]
theorem cmp_trans : ∀ {a b c : List UInt8}, cmpB a b < 0 → cmpB b c < 0 → cmpB a c < 0
 | [], [], _, h, _ => by cases h
 | [], _ :: _, [], _, h => by cases h
 | [], _ :: _, _ :: _, _, _ => by show (-1 : Int) < 0; decide
 | _ :: _, [], _, h, _ => by cases h
 | _ :: _, _ :: _, [], _, h => by cases h
 | x :: r, y :: t, z :: u, h, k => by
  have h' : (if x < y then (-1 : Int) else if y < x then 1 else cmpB r t) < 0 := h
  have k' : (if y < z then (-1 : Int) else if z < y then 1 else cmpB t u) < 0 := k
  show (if x < z then (-1 : Int) else if z < x then 1 else cmpB r u) < 0
  simp only [UInt8.lt_iff_toNat_lt] at *
  split at h'
  ·split at k'
   ·rw [if_pos (by omega)]; decide
   split at k'
   ·cases k'
   rw [if_pos (by omega)]; decide
  split at h'
  ·cases h'
  split at k'
  ·rw [if_pos (by omega)]; decide
  split at k'
  ·cases k'
  rw [if_neg (by omega), if_neg (by omega)]
  exact cmp_trans h' k'
theorem cmp_anti : ∀ (a b : List UInt8), cmpB a b = - cmpB b a
 | [], [] => rfl
 | [], _ :: _ => rfl
 | _ :: _, [] => rfl
 | x :: r, y :: t => by
  show (if x < y then (-1 : Int) else if y < x then 1 else cmpB r t) = - (if y < x then (-1 : Int) else if x < y then 1 else cmpB t r)
  simp only [UInt8.lt_iff_toNat_lt]
  split
  ·rw [if_neg (by omega)]
  split
  ·rfl
  exact cmp_anti r t
theorem less_cmp : ∀ a b : List UInt8, Go.Op.bytesLess a b = decide (cmpB a b < 0)
 | [], [] => rfl
 | _ :: _, [] => rfl
 | [], _ :: _ => rfl
 | x :: r, y :: t => by
  show (decide (x < y) || (x == y && Go.Op.bytesLess r t)) = decide ((if x < y then (-1 : Int) else if y < x then 1 else cmpB r t) < 0)
  rw [less_cmp r t]
  by_cases h : x < y
  ·simp [h]
  by_cases h2 : y < x
  ·have hne : (x == y) = false := by
    rw [beq_eq_false_iff_ne]
    intro e
    rw [e] at h2
    exact UInt8.lt_irrefl y h2
   simp [h, h2, hne]
  have e : x = y := UInt8.le_antisymm (UInt8.not_lt.1 h2) (UInt8.not_lt.1 h)
  subst e
  simp [h]
theorem leq_cmp (a b : List UInt8) : (Go.Op.bytesLess a b || a == b) = decide (cmpB a b ≤ 0) := by
 rw [less_cmp]
 by_cases h : cmpB a b < 0
 ·simp [h]; omega
 by_cases h2 : a = b
 ·subst h2
  simp [cmp_self]
 have h3 : cmpB a b ≠ 0 := fun e => h2 (cmp_zero e)
 have e1 : (a == b) = false := by rw [beq_eq_false_iff_ne]; exact h2
 simp [h, e1]
 omega
theorem cmp_one : ∀ a b : List UInt8, cmpB a b = -1 ∨ cmpB a b = 0 ∨ cmpB a b = 1
 | [], [] => .inr (.inl rfl)
 | _ :: _, [] => .inr (.inr rfl)
 | [], _ :: _ => .inl rfl
 | x :: r, y :: t => by
  show (if x < y then (-1 : Int) else if y < x then 1 else cmpB r t) = -1 ∨ (if x < y then (-1 : Int) else if y < x then 1 else cmpB r t) = 0 ∨ (if x < y then (-1 : Int) else if y < x then 1 else cmpB r t) = 1
  split
  ·exact .inl rfl
  split
  ·exact .inr (.inr rfl)
  exact cmp_one r t
theorem nans_any (a : List UInt8) (w : World) :
  Calls Tryz.prog 94 #[.string (sB a)] w fun e w' => e = .returned (.bool false) ∧ w = w' := by
 have t1 : ((sB a).toList != (sB a).toList) = false := by simp
 have t2 : ((sB a).toList == (sB a).toList) = true := by simp
 go_enter Tryz.func94, Tryz.ntmps94
 go_wp2_with fail
 go_ret
 exact ⟨rfl, rfl⟩
theorem cmpstr_any (a b : List UInt8) (w : World) :
  Calls Tryz.prog 56 #[.string (sB a), .string (sB b)] w fun e w' => e = .returned (.int .i64 (cmpB a b)) ∧ w = w' := by
 have HN := ι nans_any
 have HL := ι (less_cmp a b)
 have HL2 := ι (less_cmp b a)
 have HA := ι (cmp_anti a b)
 have HO := ι (cmp_one a b)
 obtain ⟨l1, hl1⟩ : ∃ q, q = Go.Op.bytesLess a b := ⟨_, rfl⟩
 obtain ⟨l2, hl2⟩ : ∃ q, q = Go.Op.bytesLess b a := ⟨_, rfl⟩
 have t1 : Go.Op.bytesLess (sB a).toList (sB b).toList = l1 := by rw [hl1, toL, toL]
 have t2 : Go.Op.bytesLess (sB b).toList (sB a).toList = l2 := by rw [hl2, toL, toL]
 rw [← hl1] at HL
 rw [← hl2] at HL2
 clear hl1 hl2
 go_enter Tryz.func56, Tryz.ntmps56
 go_wp2_with fail
 refine (HN.out a w).mono ?_
 rintro e w1 ⟨rfl, rfl⟩
 go_wp2_with fail
 refine (HN.out b w).mono ?_
 rintro e w1 ⟨rfl, rfl⟩
 cases l1 with
 | true =>
  have H3 := ι (show cmpB a b = -1 by
   have h := HL.out
   have := of_decide_eq_true h.symm
   rcases HO.out with e | e | e <;> omega)
  go_wp2_with fail
  go_ret
  exact ⟨by rw [H3.out]; rfl, rfl⟩
 | false =>
 cases l2 with
 | true =>
  have H3 := ι (show cmpB a b = 1 by
   have h := HL2.out
   have := of_decide_eq_true h.symm
   have := HA.out
   rcases HO.out with e | e | e <;> omega)
  have t3 : ((sB a).toList == (sB b).toList) = false := by
   rw [str_eq]
   have : a ≠ b := fun e => by
    have h := H3.out
    rw [e, cmp_self] at h
    omega
   simpa using this
  go_wp2_with fail
  go_ret
  exact ⟨by rw [H3.out]; rfl, rfl⟩
 | false =>
  have H3 := ι (show cmpB a b = 0 by
   have h1 := of_decide_eq_false HL.out.symm
   have h2 := of_decide_eq_false HL2.out.symm
   have := HA.out
   rcases HO.out with e | e | e <;> omega)
  have t3 : ((sB a).toList == (sB b).toList) = true := by
   rw [str_eq]
   simpa using cmp_zero H3.out
  go_wp2_with fail
  go_ret
  exact ⟨by rw [H3.out]; rfl, rfl⟩
instance : Inhabited Rg := ⟨⟨[], 0, 0, 0, 0, 0, false⟩⟩
def cmpR (x y : Rg) : Int := cmpB x.name y.name
theorem ltR (x y : Rg) : ltOf cmpR x y = decide (cmpB x.name y.name < 0) := by
 unfold ltOf cmpR
 by_cases h : cmpB x.name y.name < 0 <;> simp [h]
theorem cmp_ntrans {a b c : List UInt8} (h1 : ¬ cmpB a b < 0) (h2 : ¬ cmpB b c < 0) : ¬ cmpB a c < 0 := by
 intro h3
 have a1 := cmp_anti a b
 have a2 := cmp_anti b c
 have a3 := cmp_anti a c
 by_cases e1 : cmpB b a = 0
 ·have := cmp_zero e1
  subst this
  exact h2 h3
 by_cases e2 : cmpB c b = 0
 ·have := cmp_zero e2
  subst this
  exact h1 h3
 have h4 : cmpB b a < 0 := by omega
 have h5 : cmpB c b < 0 := by omega
 have := cmp_trans h5 h4
 omega
theorem swoR : SWO (ltOf cmpR) where
 irrefl x := by rw [ltR, cmp_self]; rfl
 trans x y z h1 h2 := by
  rw [ltR] at *
  simp only [decide_eq_true_eq] at *
  exact cmp_trans h1 h2
 ntrans x y z h1 h2 := by
  rw [ltR] at *
  simp only [decide_eq_false_iff_not] at *
  exact cmp_ntrans h1 h2
theorem cmpRg_any (x y : Rg) (W : World) : Calls Tryz.prog 55 #[x.v, y.v] W fun e w' => e = .returned (.int .i64 (cmpR x y)) ∧ ∃ q os', w' = grow (W.drewN q) os' := by
 have HC := ι (fun W' => cmpstr_any x.name y.name W')
 unfold cmpR
 generalize cmpB x.name y.name = r at HC ⊢
 rw [show x.v = .agg #[.string (sB x.name), .int .i64 x.top, .int .i64 x.hei, .int .i64 x.lef, .int .i64 x.wid, .int .u8 x.ali, .bool x.bot] from rfl, show y.v = .agg #[.string (sB y.name), .int .i64 y.top, .int .i64 y.hei, .int .i64 y.lef, .int .i64 y.wid, .int .u8 y.ali, .bool y.bot] from rfl]
 go_enter Tryz.func55, Tryz.ntmps55
 go_wp2_with fail
 refine (HC.out _).mono ?_
 rintro e w' ⟨rfl, rfl⟩
 go_wp2_with fail
 go_ret
 exact ⟨rfl, 0, _, by rw [alloc_eq_grow, alloc_eq_grow, grow_grow]; rfl⟩
theorem cmpR_lays (blk off size : Nat) (w : World) : CmpLays Tryz.prog 55 #[] Rg.cs 7 cmpR blk off size w :=
 fun _ _ _ _ x y => cmpRg_any x y _
theorem rg_len (x : Rg) : (Rg.cs x).length = 7 := rfl
theorem rg_oneK : ∀ x : Rg, ∀ u ∈ Rg.cs x, u.oneCell' = true := fun x u hu => rg_one _ x rfl u hu
theorem flatK_listR (ys : List Rg) : (flatK Rg.cs 7 ys.toArray).toList = ys.flatMap Rg.cs := by
 apply List.ext_getElem?
 intro t
 have hl : (ys.flatMap Rg.cs).length = ys.length * 7 := flat_len rg_len ys
 by_cases ht : t < ys.length * 7
 ·have hk : t / 7 < ys.length := by omega
  have h1 : (flatK Rg.cs 7 ys.toArray)[t]! = (Rg.cs ys[t / 7])[t % 7]! := by
   rw [get_flatK _ _ _ _ (by simpa using ht)]
   simp [hk]
  have h2 := flat_get rg_len (List.getElem?_eq_getElem hk) (j := t % 7) (by omega)
  rw [show t / 7 * 7 + t % 7 = t by omega] at h2
  have ht2 : t < (flatK Rg.cs 7 ys.toArray).size := by simpa using ht
  rw [h2, Array.getElem?_toList, Array.getElem?_eq_getElem ht2, ← getElem!_pos (flatK Rg.cs 7 ys.toArray) t ht2, h1]
  have h3 : t % 7 < (Rg.cs ys[t / 7]).length := by rw [rg_len]; omega
  rw [List.getElem?_eq_getElem h3, getElem!_pos (Rg.cs ys[t / 7]) (t % 7) h3]
 rw [List.getElem?_eq_none (by simp; omega), List.getElem?_eq_none (by rw [hl]; omega)]
theorem heap_sortedR {w : World} {g q : Nat} {ys : List Rg} {os : Array Obj} (k : Nat) (hk : k < w.heap.size) (hne : k ≠ g) : (sortWorldK Rg.cs 7 w g 0 q ys.toArray os).heap[k]? = w.heap[k]? := by
 unfold sortWorldK putRowK
 rw [heap_grow_old _ _ (by simpa [putRow, mapBlock, Sort.ahead] using hk)]
 have : g ≠ k := fun e => hne e.symm
 simp [putRow, mapBlock, Sort.ahead, Array.getElem?_modify, this]
theorem size_sortedR {w : World} {g q : Nat} {ys : List Rg} {os : Array Obj} : w.heap.size ≤ (sortWorldK Rg.cs 7 w g 0 q ys.toArray os).heap.size := by
 unfold sortWorldK putRowK
 simp [putRow, mapBlock, Sort.ahead, grow]
theorem own_sortedR {w : World} {base g n cap q : Nat} {zs ys : List Rg} {os : Array Obj} (h : w.ownsRow base 128 7 (.slice (some ⟨g, 0, none⟩) n cap) n (zs.flatMap Rg.cs)) (hy : ys.length = n) :
  (sortWorldK Rg.cs 7 w g 0 q ys.toArray os).ownsRow base 128 7 (.slice (some ⟨g, 0, none⟩) n cap) n (ys.flatMap Rg.cs) := by
 have hlt := (h.lt g rfl).2
 rcases h.2 with ⟨e0, _⟩ | ⟨g', cap', cur, e0, hb, hg, hn, hm, hs, ht⟩
 ·cases e0
 injection e0 with e1 _ e3
 injection e1 with e1
 injection e1 with e1
 subst e1; subst e3
 refine ⟨by rw [flat_len rg_len, hy], .inr ⟨g, cap, putCells id 0 (flatK Rg.cs 7 ys.toArray) cur, rfl, hb, ?_, by omega, hm, by simpa [putCells] using hs, ?_⟩⟩
 ·unfold sortWorldK putRowK
  rw [heap_grow_old _ _ (by simpa [putRow, mapBlock, Sort.ahead] using hlt)]
  simp [putRow, mapBlock, Sort.ahead, Array.getElem?_modify, hg, onCells]
 rw [← flatK_listR]
 apply List.ext_getElem?
 intro j
 rw [List.getElem?_take, Array.getElem?_toList, Array.getElem?_toList]
 by_cases hj : j < n * 7
 ·have hjc : j < cur.size := by rw [hs]; have := Nat.mul_le_mul_right 7 hn; omega
  have hjf : j < (flatK Rg.cs 7 ys.toArray).size := by simp; omega
  simp only [if_pos hj, putCells, Array.getElem?_mapIdx, Array.getElem?_eq_getElem hjc, Option.map_some]
  rw [if_pos (by simp; omega), Array.getElem?_eq_getElem hjf]
  simp
  exact getElem!_pos (flatK Rg.cs 7 ys.toArray) j hjf
 rw [if_neg hj, Array.getElem?_eq_none (by simp; omega)]
theorem holds_ownR {w : World} {base g n cap : Nat} {zs : List Rg} (h : w.ownsRow base 128 7 (.slice (some ⟨g, 0, none⟩) n cap) n (zs.flatMap Rg.cs)) : HoldsK Rg.cs 7 w g 0 zs.toArray := by
 rcases h.2 with ⟨e0, _⟩ | ⟨g', cap', cur, e0, hb, hg, hn, hm, hs, ht⟩
 ·cases e0
 injection e0 with e1 _ e3
 injection e1 with e1
 injection e1 with e1
 subst e1; subst e3
 have hl : zs.length * 7 = n * 7 := by rw [← flat_len rg_len, h.1]
 intro j hj
 have hj' : j < n * 7 := by simp at hj; omega
 refine ⟨?_, by simp [World.frozen?, hg]⟩
 have e1 : (cur.toList.take (n * 7))[j]? = (zs.flatMap Rg.cs)[j]? := by rw [ht]
 rw [List.getElem?_take, if_pos hj', ← flatK_listR, Array.getElem?_toList, Array.getElem?_toList, Array.getElem?_eq_getElem hj] at e1
 simp only [World.cell?, hg, Nat.zero_add]
 simp only [Option.isSome_none, Bool.false_eq_true, if_false]
 rw [e1]
 simp
 exact (getElem!_pos (flatK Rg.cs 7 zs.toArray) j hj).symm
def SrtR : List Rg → Prop
 | [] => True
 | x :: t => (∀ y ∈ t, 0 ≤ cmpB y.name x.name) ∧ SrtR t
def SortQ (base : Nat) (xs : List Rg) (W : World) (v : Value) (w' : World) : Prop := ∃ ys : List Rg, ys.Perm xs ∧ SrtR ys ∧ w'.ownsRow base 128 7 v ys.length (ys.flatMap Rg.cs) ∧ Below base W w'
theorem srtR_of : ∀ {ys : List Rg}, (∀ i j, i < j → j < ys.length → ltOf cmpR ys.toArray[j]! ys.toArray[i]! = false) → SrtR ys
 | [], _ => trivial
 | y :: ys, h => by
  refine ⟨fun t ht => ?_, srtR_of (ys := ys) (fun i j hij hj => ?_)⟩
  ·obtain ⟨j, hj, rfl⟩ := List.mem_iff_getElem.1 ht
   have := h 0 (j + 1) (by omega) (by simp; omega)
   rw [ltR] at this
   simp [hj] at this
   exact this
  have := h (i + 1) (j + 1) (by omega) (by simp; omega)
  have hi : i < ys.length := by omega
  simpa [hj, hi] using this
theorem sortR_any (base g n cap : Nat) (xs : List Rg) (w : World) (hn : xs.length = n) (h : w.ownsRow base 128 7 (.slice (some ⟨g, 0, none⟩) n cap) n (xs.flatMap Rg.cs)) (hl : n ≤ 1000000) :
  Calls Tryz.prog 54 #[.slice (some ⟨g, 0, none⟩) n cap, .func (.func 55) #[] #[]] w fun e w' => e = .returned (.tuple #[]) ∧ SortQ base xs w (.slice (some ⟨g, 0, none⟩) n cap) w' := by
 have eg : ∀ args w, (callFunc 55 args).run Tryz.prog w = .ok (.enter 55 args) w := enters_of Tryz.func55 (by kernel_rfl) rfl
 have hcon := AnyQ.slices_SortFunc Tryz.sortRg 7 Tryz.isAgg128 Tryz.sizeOf128 Rg.cs rg_len rg_oneK cmpR swoR 55 #[] g 0 cap xs.toArray w eg (cmpR_lays g 0 _ w) (holds_ownR h) (h.lt g rfl).2 (by simp; omega)
 change Calls Tryz.prog 54 _ _ _ at hcon
 rw [show xs.toArray.size = n by simpa using hn] at hcon
 refine hcon.mono ?_
 rintro e w' ⟨rfl, d', q, os, hp, hs, rfl⟩
 obtain ⟨p1, _, p3⟩ := hp
 have hsz : d'.toList.length = n := by simp [p1, hn]
 refine ⟨rfl, d'.toList, ?_, srtR_of (fun i j hij hj => hs i j (Nat.zero_le _) hij (by omega)), ?_, ?_⟩
 ·have e1 : d'.extract 0 n = d' := by rw [Array.extract_eq_self_of_le (by simp [p1, hn])]
  have e2 : xs.toArray.extract 0 n = xs.toArray := by rw [Array.extract_eq_self_of_le (by simp [hn])]
  rw [e1, e2] at p3
  simpa using p3
 ·have := own_sortedR (q := q) (ys := d'.toList) (os := os) h hsz
  rw [hsz]
  simpa using this
 have hb := (h.lt g rfl).1
 have := heap_sortedR (w := w) (g := g) (q := q) (ys := d'.toList) (os := os)
 exact ⟨rfl, rfl, rfl, by have := size_sortedR (w := w) (g := g) (q := q) (ys := d'.toList) (os := os); simpa using this, fun k hk => by
  have hw : k < w.heap.size := by have := (h.lt g rfl).2; omega
  have := this k hw (by omega)
  simpa using this⟩
theorem sortAllR_any (base : Nat) (v : Value) (xs : List Rg) (w : World) (h : w.ownsRow base 128 7 v xs.length (xs.flatMap Rg.cs)) (hl : xs.length ≤ 1000000) :
  Calls Tryz.prog 54 #[v, .func (.func 55) #[] #[]] w fun e w' => e = .returned (.tuple #[]) ∧ SortQ base xs w v w' := by
 cases xs with
 | nil =>
  obtain ⟨A, c, e, _⟩ := row_of_ownK h
  subst e
  have hcon := AnyF.slices_SortFunc_none { Tryz.sortRg with } A c (.func (.func 55) #[] #[]) w
  change Calls Tryz.prog 54 _ _ _ at hcon
  refine hcon.mono ?_
  rintro e w' ⟨rfl, rfl⟩
  exact ⟨rfl, [], List.Perm.refl _, trivial, h, Below.refl _ _⟩
 | cons x r =>
  obtain ⟨g, cap, rfl⟩ := ownsRow_succ h
  exact sortR_any base g _ cap (x :: r) w rfl h hl
def eqB (x y : Rg) : Bool := decide (x.name = y.name) && (decide (x.top = y.top) && (decide (x.hei = y.hei) && (decide (x.lef = y.lef) && (decide (x.wid = y.wid) && (decide (x.ali = y.ali) && decide (x.bot = y.bot))))))
theorem eqB_iff {x y : Rg} : eqB x y = true ↔ x = y := by
 unfold eqB
 simp only [Bool.and_eq_true, decide_eq_true_eq]
 cases x; cases y
 constructor
 ·rintro ⟨h1, h2, h3, h4, h5, h6, h7⟩
  simp only at h1 h2 h3 h4 h5 h6 h7
  subst h1; subst h2; subst h3; subst h4; subst h5; subst h6; subst h7
  rfl
 intro h
 injection h with h1 h2 h3 h4 h5 h6 h7
 exact ⟨h1, h2, h3, h4, h5, h6, h7⟩
theorem rgeq_run (x y : Rg) (w : World) : (Go.binOp .eql 128 x.v y.v).run Tryz.prog w = Result.ok (.bool (eqB x y)) w := by
 unfold Rg.v
 simp only [eqB]
 simp [go_sem, toL]
 repeat' split
 all_goals simp_all
theorem rgeqg_run (a b : Operand) (x y : Rg) (w : World) : (eqGuard .eql 128 a b x.v y.v).run Tryz.prog w = Result.ok () w := by
 unfold Rg.v
 simp [go_sem]
def idxR (v : Rg) : Nat → List Rg → Int
 | _, [] => -1
 | k, x :: t => if eqB v x = true then (k : Int) else idxR v (k + 1) t
theorem idxR_drop {v : Rg} {l : List Rg} {k : Nat} {x : Rg} (hk : l[k]? = some x) : idxR v k (l.drop k) = if eqB v x = true then (k : Int) else idxR v (k + 1) (l.drop (k + 1)) := by
 rw [List.drop_eq_getElem_cons (List.getElem?_eq_some_iff.1 hk).1, (List.getElem?_eq_some_iff.1 hk).2]
 rfl
theorem idxR_has (v : Rg) : ∀ (l : List Rg) (k : Nat), decide (0 ≤ idxR v k l) = l.any (eqB v)
 | [], k => rfl
 | x :: t, k => by
  unfold idxR
  rw [List.any_cons]
  by_cases h : eqB v x = true
  ·rw [if_pos h, h, Bool.true_or]
   simp
  rw [if_neg h, idxR_has v t (k + 1)]
  simp [h]
abbrev rgA (x : Rg) : Value := .agg #[.string (sB x.name), .int .i64 x.top, .int .i64 x.hei, .int .i64 x.lef, .int .i64 x.wid, .int .u8 x.ali, .bool x.bot]
theorem rindex_any (v : Rg) (A : Option Addr) (c : Nat) (L : List Rg) (w : World) (h : RegsAt w (.slice A L.length c) L) (hl : L.length ≤ 2000000) :
  Calls Tryz.prog 92 #[.slice A L.length c, v.v] w fun e w' => e = .returned (.int .i64 (idxR v 0 L)) ∧ Below w.heap.size w w' := by
 have H := ι h
 clear h
 obtain ⟨G, hG⟩ : ∃ G, G = w.heap.size := ⟨_, rfl⟩
 rw [show v.v = rgA v from rfl]
 go_enter Tryz.func92, Tryz.ntmps92
 go_wp2_with fail
 rw [← hG]
 generalize hw1 : World.alloc w _ = w1
 have F1 := ι (show Held w1 G v.cs by subst hw1; exact Held.new hG)
 have B1 := ι (show Below w.heap.size w w1 by subst hw1; exact Below.more' _ _)
 have hG1 := F1.out.lt
 clear hw1 hG
 go_loopw [8] (fun i wr => ∃ k : Nat, k ≤ L.length ∧ i = .int .i64 k ∧ Hid (idxR v k (L.drop k) = idxR v 0 L) ∧ Hid (Below w1.heap.size w1 wr)) (fun i _ => L.length - (intOf i).toNat)
 case atStart => exact ⟨0, by omega, rfl, ι rfl, ι (Below.refl _ _)⟩
 case round =>
 obtain ⟨k, hk, rfl, HK, BR⟩ := hrel
 have BW := ι (show Below w.heap.size w wr from B1.out.trans (BR.out.mono B1.out.size))
 by_cases hlt : k < L.length
 ·have hlt2 : (k : Int) < (L.length : Int) := by omega
  obtain ⟨x, hx⟩ : ∃ x, L[k]? = some x := ⟨_, List.getElem?_eq_getElem hlt⟩
  have HD := ι (idxR_drop (v := v) hx)
  obtain ⟨b, o, rfl, q0, q1, q2, q3, q4, q5, q6⟩ := RegsAt.get (H.out.ext (Flat.stays _) BW.out) hx
  have FR := F1.out.below BR.out hG1
  have fq := FR.cell
  have hGr := FR.lt
  have hbr : b < wr.heap.size := World.block_lt_of_cell? wr _ q0
  unfold Rg.cs at fq
  obtain ⟨eb, heb⟩ : ∃ r, r = eqB v x := ⟨_, rfl⟩
  have t1 : ∀ w', (Go.binOp .eql 128 (rgA v) (rgA x)).run Tryz.prog w' = Result.ok (.bool eb) w' := fun w' => by rw [heb]; exact rgeq_run v x w'
  have t2 : ∀ a b w', (eqGuard .eql 128 a b (rgA v) (rgA x)).run Tryz.prog w' = Result.ok () w' := fun a b w' => rgeqg_run a b v x w'
  rw [← heb] at HD
  unfold rgA at t1 t2
  clear hx FR heb
  go_wp2_with fail
  go_quiet (fail)
  generalize hw3 : wr.drewN nq = w3
  have B3 := ι (show Below w1.heap.size w1 w3 by subst hw3; exact below_drewN BR.out nq)
  clear hw3 q0 q1 q2 q3 q4 q5 q6 fq BW BR t1 t2
  cases eb with
  | true =>
   have HF2 := ι (show idxR v 0 L = (k : Int) by rw [← HK.out, HD.out, if_pos rfl])
   go_wp2_with fail
   go_ret
   exact ⟨by rw [HF2.out]; rfl, B1.out.trans (B3.out.mono B1.out.size)⟩
  | false =>
   have HF2 := ι (show idxR v (k + 1) (L.drop (k + 1)) = idxR v 0 L by rw [← HK.out, HD.out, if_neg (by decide)])
   go_wp2_with fail
   go_roundw
   case rel => exact ⟨k + 1, by omega, by go_num, HF2, B3⟩
   case measure => simp [intOf]; omega
 obtain rfl : k = L.length := by omega
 have HF2 := ι (show idxR v 0 L = -1 by rw [← HK.out, List.drop_length]; rfl)
 clear hlt
 go_wp2_with fail
 go_ret
 exact ⟨by rw [HF2.out]; rfl, BW.out⟩
theorem contains_any (v : Rg) (A : Option Addr) (c : Nat) (L : List Rg) (w : World) (h : RegsAt w (.slice A L.length c) L) (hl : L.length ≤ 2000000) :
  Calls Tryz.prog 53 #[.slice A L.length c, v.v] w fun e w' => e = .returned (.bool (L.any (eqB v))) ∧ Below w.heap.size w w' := by
 have H := ι h
 clear h
 obtain ⟨q, hq⟩ : ∃ q, q = idxR v 0 L := ⟨_, rfl⟩
 have HV := ι (show decide (0 ≤ q) = L.any (eqB v) by rw [hq]; exact idxR_has v L 0)
 have HI := ι (show ∀ W, RegsAt W (.slice A L.length c) L → Calls Tryz.prog 92 #[.slice A L.length c, rgA v] W fun e w' => e = .returned (.int .i64 q) ∧ Below W.heap.size W w' from fun W h => by rw [hq]; exact rindex_any v A c L W h hl)
 rw [← HV.out]
 clear hq
 obtain ⟨G, hG⟩ : ∃ G, G = w.heap.size := ⟨_, rfl⟩
 rw [show v.v = rgA v from rfl]
 go_enter Tryz.func53, Tryz.ntmps53
 go_wp2_with fail
 generalize hw1 : World.alloc w _ = w1
 have B1 := ι (show Below w.heap.size w w1 by subst hw1; exact Below.more' _ _)
 clear hw1
 refine (HI.out w1 (SeqAt.ext H.out (Flat.stays _) B1.out)).mono ?_
 rintro e w2 ⟨rfl, hb⟩
 have B2 := ι (B1.out.trans (hb.mono B1.out.size))
 clear hb
 by_cases h0 : 0 ≤ q
 ·go_wp2_with fail
  go_ret
  exact ⟨by rw [show decide (0 ≤ q) = true by simpa using h0]; rfl, B2.out⟩
 go_wp2_with fail
 go_ret
 exact ⟨by rw [show decide (0 ≤ q) = false by simpa using h0]; rfl, B2.out⟩
def addR (out : List Rg) (g : Rg) : List Rg := if out.any (eqB g) = true then out else out ++ [g]
def regsK (l : List Rd) (k : Nat) : List Rg := (l.take k).foldl (fun o d => d.doc.regs.foldl addR o) []
def regsL (l : List Rd) : List Rg := l.foldl (fun o d => d.doc.regs.foldl addR o) []
theorem addR_len (L : List Rg) : ∀ o : List Rg, (L.foldl addR o).length ≤ o.length + L.length := by
 induction L with
 | nil => intro o; simp
 | cons x t ih =>
  intro o
  rw [List.foldl_cons]
  have h1 := ih (addR o x)
  have h2 : (addR o x).length ≤ o.length + 1 := by unfold addR; split <;> simp
  rw [List.length_cons]
  omega
theorem addR_step {L o : List Rg} {j : Nat} {x : Rg} (h : L[j]? = some x) : (L.take (j + 1)).foldl addR o = addR ((L.take j).foldl addR o) x := by
 rw [List.take_add_one, h, Option.toList_some, List.foldl_append]
 rfl
theorem regsK_step {l : List Rd} {k : Nat} {x : Rd} (h : l[k]? = some x) : regsK l (k + 1) = x.doc.regs.foldl addR (regsK l k) := by
 unfold regsK
 rw [List.take_add_one, h, Option.toList_some, List.foldl_append]
 rfl
theorem regsK_all (l : List Rd) : regsK l l.length = regsL l := by unfold regsK regsL; rw [List.take_length]
theorem regsK_len {l : List Rd} (h : ∀ x ∈ l, x.doc.regs.length ≤ 16) : ∀ k, (regsK l k).length ≤ k * 16 := by
 intro k
 induction k with
 | zero => unfold regsK; simp
 | succ k ih =>
  cases hx : l[k]? with
  | none =>
   have e : regsK l (k + 1) = regsK l k := by
    unfold regsK
    rw [List.take_add_one, hx]
    simp
   rw [e]
   omega
  | some x =>
   rw [regsK_step hx]
   have h1 := addR_len x.doc.regs (regsK l k)
   have h2 := h x (List.mem_of_getElem? hx)
   omega
theorem rgs_own {w : World} {base : Nat} {v : Value} {L : List Rg} (h : w.ownsRow base 128 7 v L.length (L.flatMap Rg.cs)) : OwnS w base 128 7 (Flat Rg.cs) v L := by
 refine ⟨L.map Rg.cs, Al2.ofFlat rg_len L, ?_⟩
 have e : (L.map Rg.cs).flatten = L.flatMap Rg.cs := Al2.flatMap (Al2.ofFlat rg_len L)
 rw [e]
 exact h
theorem regions_any (v : Value) (l : List Rd) (w : World) (h : RdsAt w v l) (hl : l.length ≤ 16) (hr : ∀ x ∈ l, x.doc.regs.length ≤ 16) :
  Calls Tryz.prog 28 #[v] w fun e w' => (∃ v' ys, e = .returned v' ∧ ys.Perm (regsL l) ∧ SrtR ys ∧ w'.ownsRow w.heap.size 128 7 v' ys.length (ys.flatMap Rg.cs)) ∧ Below w.heap.size w w' := by
 obtain ⟨A, cp, rfl⟩ := h.form
 have H := ι h
 have HR := ι hr
 clear h hr
 obtain ⟨i0, hi, hz0, hz1, hz2⟩ := info_parts infoCRg
 have HI0 := ι (And.intro hi (And.intro hz0 (And.intro hz1 hz2)))
 clear hi hz0 hz1 hz2
 obtain ⟨D, hD⟩ : ∃ D, D = w.heap.size := ⟨_, rfl⟩
 have HD := ι hD
 rw [← hD]
 clear hD
 go_enter Tryz.func28, Tryz.ntmps28
 go_wp2_with fail
 go_loopw [3, 10] (fun ov i wr => ∃ (k : Nat) (uv : Value), uv = ov ∧ k ≤ l.length ∧ i = .int .i64 k ∧ Hid (wr.ownsRow D 128 7 uv (regsK l k).length ((regsK l k).flatMap Rg.cs)) ∧ Hid (Below D w wr)) (fun _ i _ => l.length - (intOf i).toNat)
 case atStart => exact ⟨0, _, rfl, Nat.zero_le _, rfl, ι (World.ownsRow_nil _ _ _ _), ι (Below.refl _ _)⟩
 case round =>
 obtain ⟨k, uv, rfl, hk, rfl, HO, BR⟩ := hrel
 have hDr : D ≤ wr.heap.size := by have := BR.out.size; have := HD.out; omega
 by_cases hlt : k < l.length
 ·have hlt2 : (k : Int) < (l.length : Int) := by omega
  obtain ⟨x, hx⟩ : ∃ x, l[k]? = some x := ⟨_, List.getElem?_eq_getElem hlt⟩
  have HST := ι (regsK_step hx)
  have hxr := HR.out x (List.mem_of_getElem? hx)
  have hkl := regsK_len HR.out k
  obtain ⟨b, o, r, e, q, rfl, ⟨q0, q1, q2, q3, q4, q5, q6, q7, q8⟩, hd⟩ := RdsAt.get2 H.out (HD.out ▸ BR.out) hx
  obtain ⟨rA, rc, rfl⟩ := hd.regs.form
  obtain ⟨eA, ec, rfl⟩ := hd.evs.form
  obtain ⟨sA, sc, rfl⟩ := hd.cms.form
  have HRG := ι hd.regs
  have hbr : b < wr.heap.size := World.block_lt_of_cell? wr _ q0
  obtain ⟨K, hK⟩ : ∃ K, K = regsK l k := ⟨_, rfl⟩
  rw [← hK] at HST HO hkl
  clear hx hd hK
  go_wp2_with fail
  clear q0 q1 q2 q3 q4 q5 q6 q7 q8
  generalize hw1 : World.alloc wr _ = w1
  have HO1 := ι (show w1.ownsRow D 128 7 uv K.length (K.flatMap Rg.cs) by subst hw1; exact HO.out.alloc _)
  have B1 := ι (show Below D w w1 by subst hw1; exact BR.out.alloc hDr _)
  clear hw1 HO BR hDr hbr
  go_loopw [3, 18] (fun ov i wq => ∃ (j : Nat) (uu : Value), uu = ov ∧ j ≤ x.doc.regs.length ∧ i = .int .i64 j ∧ Hid (wq.ownsRow D 128 7 uu ((x.doc.regs.take j).foldl addR K).length (((x.doc.regs.take j).foldl addR K).flatMap Rg.cs)) ∧ Hid (Below D w wq)) (fun _ i _ => x.doc.regs.length - (intOf i).toNat)
  case atStart => exact ⟨0, _, rfl, Nat.zero_le _, rfl, HO1, B1⟩
  case round =>
  obtain ⟨j, uu, rfl, hj, rfl, HO, BR⟩ := hrel
  have hDr : D ≤ wr.heap.size := by have := BR.out.size; have := HD.out; omega
  by_cases hjt : j < x.doc.regs.length
  ·have hjt2 : (j : Int) < (x.doc.regs.length : Int) := by omega
   obtain ⟨g, hg⟩ : ∃ g, x.doc.regs[j]? = some g := ⟨_, List.getElem?_eq_getElem hjt⟩
   have HJS := ι (addR_step (o := K) hg)
   have hml : ((x.doc.regs.take j).foldl addR K).length ≤ 300 := by
    have := addR_len (x.doc.regs.take j) K
    rw [List.length_take] at this
    omega
   obtain ⟨b2, o2, rfl, p0, p1, p2, p3, p4, p5, p6⟩ := RegsAt.get (HRG.out.ext (Flat.stays _) (HD.out ▸ BR.out)) hg
   have hb2 : b2 < wr.heap.size := World.block_lt_of_cell? wr _ p0
   generalize (x.doc.regs.take j).foldl addR K = M at *
   obtain ⟨A3, c3, e3⟩ : ∃ A3 c3, uu = .slice A3 M.length c3 := by obtain ⟨A3, c3, e, _⟩ := row_of_ownK HO.out; exact ⟨A3, c3, e⟩
   subst e3
   obtain ⟨fb, hfb⟩ : ∃ r, r = M.any (eqB g) := ⟨_, rfl⟩
   have HCN := ι (show ∀ W, RegsAt W (.slice A3 M.length c3) M → Calls Tryz.prog 53 #[.slice A3 M.length c3, rgA g] W fun e w' => e = .returned (.bool fb) ∧ Below W.heap.size W w' from fun W h => by rw [hfb]; exact contains_any g A3 c3 M W h (by omega))
   have HAD := ι (show addR M g = if fb = true then M else M ++ [g] by rw [hfb]; rfl)
   clear hg hfb
   go_wp2_with fail
   clear p0 p1 p2 p3 p4 p5 p6
   generalize hw4 : World.alloc wr _ = w4
   obtain ⟨X, hX⟩ : ∃ X, X = wr.heap.size := ⟨_, rfl⟩
   rw [← hX]
   have F4 := ι (show Held w4 X g.cs by subst hw4; exact Held.new hX)
   have HO4 := ι (show w4.ownsRow D 128 7 (.slice A3 M.length c3) M.length (M.flatMap Rg.cs) by subst hw4; exact HO.out.alloc _)
   have B4 := ι (show Below D w w4 by subst hw4; exact BR.out.alloc hDr _)
   clear hw4 hX HO BR hb2
   refine (HCN.out w4 (OwnS.at (rgs_own HO4.out) (by decide))).mono ?_
   rintro e w5 ⟨rfl, hb⟩
   have F5 := ι (F4.out.ext hb)
   have HO5 := ι (own_ext HO4.out hb)
   have B5 := ι (B4.out.trans (hb.mono (by have := B4.out.size; have := HD.out; omega)))
   have hs5 : D ≤ w5.heap.size := by have := B5.out.size; have := HD.out; omega
   clear hb F4 HO4 B4 hDr HCN
   cases fb with
   | true =>
    have HJ2 := ι (show (x.doc.regs.take (j + 1)).foldl addR K = M by rw [HJS.out, HAD.out, if_pos rfl])
    go_wp2_with fail
    go_roundw
    case rel => exact ⟨j + 1, _, rfl, by omega, by go_num, ι (by rw [HJ2.out]; exact HO5.out), B5⟩
    case measure => simp [intOf]; omega
   | false =>
    have HJ2 := ι (show (x.doc.regs.take (j + 1)).foldl addR K = M ++ [g] by rw [HJS.out, HAD.out, if_neg (by decide)])
    have fq := F5.out.cell
    have hX5 := F5.out.lt
    unfold Rg.cs at fq
    go_wp2_with (at_builtin; go_loud (refine wpList_append_own _ rfl _ _ 37 rfl D 128 i0 (.agg #[.string ⟨#[]⟩, .int .i64 0, .int .i64 0, .int .i64 0, .int .i64 0, .int .u8 0, .bool false]) 7 56 Tryz.underlying37 HI0.out.1 HI0.out.2.1 HI0.out.2.2.1 HI0.out.2.2.2 rfl (by decide) _ M.length (M.flatMap Rg.cs) rfl (HO5.out.alloc _) ⟨w5.heap.size, 0, none⟩ 1 1 g.cs rfl rfl (CellsAt.all (by simp [CellsAt, go_sem, Rg.cs])) (by simp [Value.oneCell', Rg.cs]) (by simp only [maxLen]; omega) (by omega) (by simp; omega) ?_))
    intro v6 w6 ho hgr hat
    have B6 := ι (show Below D w w6 from (B5.out.alloc hs5 _).grown hgr (by simp; omega) (own_base HO5.out))
    have HO6 := ι (show w6.ownsRow D 128 7 v6 ((x.doc.regs.take (j + 1)).foldl addR K).length (((x.doc.regs.take (j + 1)).foldl addR K).flatMap Rg.cs) by
     rw [HJ2.out, List.flatMap_append, show (M ++ [g]).length = M.length + 1 by simp]
     simpa using ho)
    clear ho hgr hat fq
    go_wp2_with fail
    go_roundw
    case rel => exact ⟨j + 1, _, rfl, by omega, by go_num, HO6, B6⟩
    case measure => simp [intOf]; omega
  obtain rfl : j = x.doc.regs.length := by omega
  rw [List.take_length] at HO
  clear hjt
  go_wp2_with fail
  go_roundw
  case rel => exact ⟨k + 1, _, rfl, by omega, by go_num, ι (by rw [HST.out]; exact HO.out), BR⟩
  case measure => simp [intOf]; omega
 obtain rfl : k = l.length := by omega
 have hml := regsK_len HR.out l.length
 rw [regsK_all] at HO hml
 obtain ⟨M, hM⟩ : ∃ M, M = regsL l := ⟨_, rfl⟩
 rw [← hM] at HO hml
 have HM := ι hM
 clear hlt hM
 go_wp2_with fail
 refine (sortAllR_any D uv M wr HO.out (by omega)).mono ?_
 rintro e w2 ⟨rfl, ys, h3, h4, h5, h6⟩
 have HP := ι h3
 have HSR := ι h4
 have HO2 := ι h5
 have B2 := ι (BR.out.trans h6)
 clear h3 h4 h5 h6
 go_wp2_with fail
 go_ret
 exact ⟨⟨_, ys, rfl, HM.out ▸ HP.out, HSR.out, HO2.out⟩, B2.out⟩
end Go.Proofs.YtmopjhbfobmklaaGreatDoor
