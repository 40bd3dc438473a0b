/-
  Runs, rows and lengths. The conditions of the contracts are their hypotheses.
-/
import Derived.Test.YtmopjhbfobmklaaGreatDoorMCc
import Derived.Test.YtmopjhbfobmklaaGreatDoorMCm
import Derived.Test.YtmopjhbfobmklaaGreatDoorMCo
set_option maxRecDepth 100000
set_option maxHeartbeats 40000000
namespace Go.Proofs.YtmopjhbfobmklaaGreatDoor
open Go.RowKit Go.Joins
set_option linter.unusedVariables false
set_option linter.unusedSimpArgs false
theorem toL (a : List UInt8) : (sB a).toList = a := by rw [Lib.toList_data, sB_list]
theorem svalid_any (c : Int) (i u : Bool) (w : World) :
  Calls Tryz.prog 156 #[.agg #[.int .u8 c, .bool i, .bool u]] w fun e w' => e = .returned (.bool (decide (c ≤ 6))) ∧ Below w.heap.size w w' := by
 go_enter Tryz.func156, Tryz.ntmps156
 go_wp2_with fail
 go_ret
 exact ⟨rfl, Below.more' _ _⟩
def alkB (a b : Rn) : Bool := (a.col == b.col && a.it == b.it && a.un == b.un) && a.ruby.isEmpty && b.ruby.isEmpty
theorem alike_any (a b : Rn) (w : World) :
  Calls Tryz.prog 157 #[a.v, b.v] w fun e w' => e = .returned (.bool (alkB a b)) ∧ Below w.heap.size w w' := by
 obtain ⟨ta, ca, ia, ua, ra⟩ := a
 obtain ⟨tb, cb, ib, ub, rb⟩ := b
 unfold Rn.v
 go_enter Tryz.func157, Tryz.ntmps157
 go_wp2_with fail
 all_goals
  go_ret
  refine ⟨ret_bool ?_, (Below.more' _ _).trans ((Below.more' _ _).mono (by simp))⟩
  unfold alkB
  simp_all [toL]
def Sml (l : List Rn) : Prop := l.length ≤ 2000000 ∧ ∀ x ∈ l, x.text.length ≤ 2000000 ∧ x.ruby.length ≤ 2000000
def rowLen : List Rn → Int → Int
 | [], n => n
 | x :: t, n => if lenV (sB x.text) < 0 then -1 else rowLen t (n + lenV (sB x.text))
theorem rowLen_drop {l : List Rn} {k : Nat} {x : Rn} (hk : l[k]? = some x) (n : Int) : rowLen (l.drop k) n = if lenV (sB x.text) < 0 then -1 else rowLen (l.drop (k + 1)) (n + lenV (sB x.text)) := by
 rw [List.drop_eq_getElem_cons (List.getElem?_eq_some_iff.1 hk).1, (List.getElem?_eq_some_iff.1 hk).2]
 rfl
theorem slen_any (v : Value) (l : List Rn) (w : World) (h : RunsAt w v l) (hl : Sml l) (hw : Wt w) :
  Calls Tryz.prog 122 #[.agg #[v]] w fun e w' => e = .returned (.int .i64 (rowLen l 0)) ∧ Below w.heap.size w w' := by
 obtain ⟨A, c, rfl⟩ := h.form
 have H := ι h
 have HW := ι hw
 have HL := ι hl
 have hll := hl.1
 clear h hw hl
 obtain ⟨G, hG⟩ : ∃ G, G = w.heap.size := ⟨_, rfl⟩
 have HG := ι hG
 go_enter Tryz.func122, Tryz.ntmps122
 go_wp2_with fail
 rw [← hG]
 generalize hw1 : World.alloc _ _ = w1
 have B1 := ι (show Below w.heap.size w w1 by subst hw1; exact Below.more' _ _)
 clear hw1 hG
 go_loopw [3, 10] (fun n i wr => ∃ (k : Nat) (m : Int), k ≤ l.length ∧ 0 ≤ m ∧ m ≤ 2000000 * k ∧ n = .int .i64 m ∧ i = .int .i64 k ∧ Hid (rowLen (l.drop k) m = rowLen l 0) ∧ Hid (Below w.heap.size w wr)) (fun _ i _ => l.length - (intOf i).toNat)
 case atStart => exact ⟨0, 0, Nat.zero_le _, by omega, by omega, rfl, rfl, ι rfl, B1⟩
 case round =>
 obtain ⟨k, m, hk, hm0, hm1, rfl, rfl, HF, BW⟩ := hrel
 by_cases hlt : k < l.length
 ·have hlt2 : (k : Int) < (l.length : Int) := by omega
  obtain ⟨x, hx⟩ : ∃ x, l[k]? = some x := ⟨_, List.getElem?_eq_getElem hlt⟩
  have HD := ι (rowLen_drop hx m)
  obtain ⟨b, o, rfl, q0, q1, q2, q3, q4⟩ := RunsAt.get (H.out.ext (Flat.stays _) BW.out) hx
  obtain ⟨hs, _⟩ := HL.out.2 x (List.mem_of_getElem? hx)
  have hbr : b < wr.heap.size := World.block_lt_of_cell? wr _ q0
  clear hx
  obtain ⟨text, col, it, un, ruby⟩ := x
  dsimp only at q0 q1 q2 q3 q4 hs
  have HLN := ι (fun W (hb : Below wr.heap.size wr W) => len_text (sB text) W (by rw [sB_size]; omega) (HW.out.on (BW.out.trans (hb.mono BW.out.size))))
  have hr := lenV_range (sB text) (by rw [sB_size]; omega)
  dsimp only at HD
  generalize lenV (sB text) = q at *
  go_wp2_with fail
  refine (HLN.out _ (Below.more' _ _)).mono ?_
  rintro e w2 ⟨rfl, hb⟩
  have B2 := ι (BW.out.trans (((Below.more' _ _).trans (hb.mono (by simp))).mono BW.out.size))
  clear hb
  by_cases h0 : q < 0
  ·have t0 : decide (q < 0) = true := by simpa using h0
   have H3 := ι (show -1 = rowLen l 0 by rw [← HF.out, HD.out, if_pos h0])
   clear h0 HD HF q0 q1 q2 q3 q4
   go_wp2_with fail
   go_ret
   exact ⟨by rw [← H3.out]; rfl, B2.out⟩
  have t0 : decide (q < 0) = false := by simpa using h0
  have H3 := ι (show rowLen (l.drop (k + 1)) (m + q) = rowLen l 0 by rw [← HF.out, HD.out, if_neg h0])
  have hq0 : 0 ≤ q := by omega
  clear h0 HD HF q0 q1 q2 q3 q4
  go_wp2_with fail
  go_roundw
  case rel => exact ⟨k + 1, m + q, by omega, by omega, by omega, by go_num, by go_num, H3, B2⟩
  case measure => simp [intOf]; omega
 obtain rfl : k = l.length := by omega
 have H3 := ι (show m = rowLen l 0 by rw [← HF.out, List.drop_length]; rfl)
 clear hlt HF
 go_wp2_with fail
 go_ret
 exact ⟨by rw [← H3.out]; rfl, BW.out⟩
def plnV (l : List Rn) : List UInt8 := l.flatMap Rn.text
theorem take_snocG {α : Type} {l : List α} {k : Nat} {x : α} (hk : l[k]? = some x) : l.take (k + 1) = l.take k ++ [x] := by
 rw [List.take_add_one, hk]
 rfl
theorem plnV_snoc {l : List Rn} {k : Nat} {x : Rn} (hk : l[k]? = some x) : plnV (l.take (k + 1)) = plnV (l.take k) ++ x.text := by
 unfold plnV
 rw [take_snocG hk, List.flatMap_append]
 simp
theorem plnV_len : ∀ {l : List Rn}, (∀ x ∈ l, x.text.length ≤ 2000000) → (plnV l).length ≤ 2000000 * l.length
 | [], _ => by simp [plnV]
 | x :: t, h => by
  have := plnV_len (l := t) (fun y hy => h y (List.mem_cons_of_mem _ hy))
  have := h x List.mem_cons_self
  unfold plnV at *
  rw [List.flatMap_cons, List.length_append, List.length_cons]
  omega
theorem plain_any (v : Value) (l : List Rn) (w : World) (h : RunsAt w v l) (hl : Sml l) (hne : ∀ x ∈ l, x.text ≠ []) (hn : l.length ≤ 16) :
  Calls Tryz.prog 120 #[.agg #[v]] w fun e w' => e = .returned (.string (sB (plnV l))) ∧ Below w.heap.size w w' := by
 obtain ⟨A, c, rfl⟩ := h.form
 have H := ι h
 have HL := ι hl
 have HNE := ι hne
 clear h hl hne
 obtain ⟨G, hG⟩ : ∃ G, G = w.heap.size := ⟨_, rfl⟩
 have HG := ι hG
 go_enter Tryz.func120, Tryz.ntmps120
 go_wp2_with fail
 rw [← hG]
 generalize hw1 : World.alloc _ _ = w1
 have B1 := ι (show Below G w w1 by subst hw1; rw [hG]; exact ((Below.more' _ _).trans ((Below.more' _ _).mono (by simp))))
 have A1 := ι (show BldI G (G + 1) [] w1 by
  subst hw1
  have e : G + 1 = (w.alloc (.cells #[.slice A l.length c] 164 (0, 0))).heap.size := by simp [hG]
  exact Or.inl ⟨Nat.le_succ _, .slice none 0 0, heap_at (w.alloc (.cells #[.slice A l.length c] 164 (0, 0))) _ e, World.ownsRow_nil _ _ _ _, by simp [Value.ownBlock]⟩)
 clear hw1 hG
 go_loopw [9] (fun i wr => ∃ k : Nat, k ≤ l.length ∧ i = .int .i64 k ∧ Hid (BldI G (G + 1) (plnV (l.take k)) wr) ∧ Hid (Below G w wr)) (fun i _ => l.length - (intOf i).toNat)
 case atStart => exact ⟨0, Nat.zero_le _, rfl, A1, B1⟩
 case round =>
 obtain ⟨k, hk, rfl, AR, BW⟩ := hrel
 have hGw : G ≤ wr.heap.size := by have := BW.out.size; have := HG.out; omega
 by_cases hlt : k < l.length
 ·have hlt2 : (k : Int) < (l.length : Int) := by omega
  obtain ⟨x, hx⟩ : ∃ x, l[k]? = some x := ⟨_, List.getElem?_eq_getElem hlt⟩
  have HD := ι (plnV_snoc hx)
  obtain ⟨b, o, rfl, q0, q1, q2, q3, q4⟩ := RunsAt.get (H.out.ext (Flat.stays _) (HG.out ▸ BW.out)) hx
  obtain ⟨hs, _⟩ := HL.out.2 x (List.mem_of_getElem? hx)
  have h0 := HNE.out x (List.mem_of_getElem? hx)
  have hpl : (plnV (l.take k)).length ≤ 1000000000 := by
   have := plnV_len (l := l.take k) (fun y hy => (HL.out.2 y (List.mem_of_mem_take hy)).1)
   have := List.length_take_le k l
   omega
  have hbr : b < wr.heap.size := World.block_lt_of_cell? wr _ q0
  clear hx
  obtain ⟨text, col, it, un, ruby⟩ := x
  dsimp only at q0 q1 q2 q3 q4 hs h0 HD
  go_wp2_with fail
  generalize hw2 : World.alloc wr _ = w2
  have A2 := ι (show BldI G (G + 1) (plnV (l.take k)) w2 by subst hw2; exact BldI.ext AR.out (Below.more' _ _))
  have B2 := ι (show Below G w w2 by subst hw2; exact BW.out.trans ((Below.more' _ _).mono hGw))
  clear hw2 q0 q1 q2 q3 q4
  refine (wstr_any G (G + 1) (plnV (l.take k)) (sB text) w2 A2.out hpl (by rw [sB_size]; omega) (by rw [sB_size]; exact List.length_pos_iff.2 h0) (by have := B2.out.size; have := HG.out; omega)).mono ?_
  rintro e w3 ⟨rfl, a3, b3, _⟩
  have A3 := ι (show BldI G (G + 1) (plnV (l.take (k + 1))) w3 by rw [HD.out]; exact bld_one a3)
  have B3 := ι (B2.out.trans b3)
  clear a3 b3 A2 B2 AR BW h0 HD
  go_wp2_with fail
  go_roundw
  case rel => exact ⟨k + 1, by omega, by go_num, A3, B3⟩
  case measure => simp [intOf]; omega
 obtain rfl : k = l.length := by omega
 have A3 := ι (show BldI G (G + 1) (plnV l) wr by have := AR.out; rwa [List.take_length] at this)
 clear hlt AR
 go_wp2_with fail
 refine (Tryz.Builder_String_any G (G + 1) (plnV l) wr A3.out hGw).mono ?_
 rintro e w2 ⟨rfl, hb⟩
 go_wp2_with fail
 go_ret
 exact ⟨rfl, HG.out ▸ BW.out.trans hb⟩
def runE (p : Option Rn) (x : Rn) : Int :=
 if valV (sB x.text) = false then 10 else if x.text = [] then 4 else if 6 < x.col then 12 else if valV (sB x.ruby) = false then 10 else match p with
  | some y => if alkB y x = true then 8 else 0
  | none => 0
def rowEs : Option Rn → List Rn → Int
 | _, [] => 0
 | p, x :: t => if runE p x = 0 then rowEs (some x) t else runE p x
def rowE (l : List Rn) : Int := if 16 < l.length then 9 else rowEs none l
def prv {α : Type} (l : List α) (k : Nat) : Option α := if k = 0 then none else l[k - 1]?
theorem prv_succ {α : Type} {l : List α} {k : Nat} {x : α} (hk : l[k]? = some x) : prv l (k + 1) = some x := by
 unfold prv
 rw [if_neg (by omega), Nat.add_sub_cancel, hk]
theorem rowEs_drop {l : List Rn} {k : Nat} {x : Rn} (hk : l[k]? = some x) : rowEs (prv l k) (l.drop k) = if runE (prv l k) x = 0 then rowEs (prv l (k + 1)) (l.drop (k + 1)) else runE (prv l k) x := by
 rw [List.drop_eq_getElem_cons (List.getElem?_eq_some_iff.1 hk).1, (List.getElem?_eq_some_iff.1 hk).2, prv_succ hk]
 rfl
theorem rowEs_nil (p : Option Rn) : rowEs p [] = 0 := by cases p <;> rfl
theorem yield_of {l : List Oper} {ev : Nat → Value} {j d : Nat} {b : Bool} (hd : dstOf l j = some d) (hv : ev d = .bool b) : yieldedEv l ev j = some b := by
 unfold yieldedEv
 rw [hd]
 simp only [hv]
theorem γ {l : List Oper} {ev : Nat → Value} {j d : Nat} {b u : Bool} {A B : Prop} (ag : ev d = .bool b) (hd : dstOf l j = some d) (h1 : b = u → A) (h2 : ¬ b = u → B) : (yieldedEv l ev j = some u → A) ∧ (yieldedEv l ev j ≠ some u → B) := ⟨fun h => h1 (Option.some.inj ((yield_of hd ag).symm.trans h)), fun h => h2 fun e => h ((yield_of hd ag).trans (congrArg some e))⟩
theorem kept_all {l : List Oper} {s : Nat} (h : (List.range l.length).all (fun j => dstOf l j != some s) = true) : ∀ j, dstOf l j ≠ some s := fun j hj => by
 rcases Nat.lt_or_ge j l.length with h' | h'
 ·have := List.all_eq_true.1 h j (List.mem_range.2 h')
  rw [hj] at this
  simp at this
 simp [dstOf, List.getElem?_eq_none h'] at hj
theorem κa {l : List Oper} {f g : Nat → Value} (hk : ∀ s, (∀ j, dstOf l j ≠ some s) → f s = g s) (s : Nat) (h : (List.range l.length).all (fun j => dstOf l j != some s) = true) : f s = g s := hk s (kept_all h)
def PhiRwY (X G g2 o2 m k ln c : Nat) (x y : Rn) (pk al : Bool) : Nat → Value → Prop
 | 37, v => v = .int .i64 (k : Int)
 | 38, v => v = .bool (pk)
 | 39, v => v = .bool (pk)
 | 40, v => (pk = true → v = .pointer (some ⟨G, 0, none⟩)) ∧ (¬ (pk = true) → v = undef)
 | 41, v => (pk = true → v = .slice (some ⟨g2, o2, none⟩) ln c) ∧ (¬ (pk = true) → v = undef)
 | 42, v => (pk = true → v = .int .i64 (k : Int)) ∧ (¬ (pk = true) → v = undef)
 | 43, v => (pk = true → v = .int .i64 (m : Int)) ∧ (¬ (pk = true) → v = undef)
 | 44, v => (pk = true → v = .pointer (some ⟨g2, o2 + m * 5, none⟩)) ∧ (¬ (pk = true) → v = undef)
 | 45, v => (pk = true → v = .agg #[.string (sB y.text), .int .u8 y.col, .bool y.it, .bool y.un, .string (sB y.ruby)]) ∧ (¬ (pk = true) → v = undef)
 | 46, v => (pk = true → v = .agg #[.string (sB x.text), .int .u8 x.col, .bool x.it, .bool x.un, .string (sB x.ruby)]) ∧ (¬ (pk = true) → v = undef)
 | 47, v => (pk = true → v = .bool al) ∧ (¬ (pk = true) → v = undef)
 | 48, v => v = .bool (pk && al)
 | 36, v => v = .bool (pk && al)
 | _, _ => True
def PhiRw (X G g2 o2 m k ln c : Nat) (x y : Rn) (pk al : Bool) (sl : Nat) (v : Value) (w : World) : Prop := PhiRwY X G g2 o2 m k ln c x y pk al sl v
theorem scheck_any (v : Value) (l : List Rn) (w : World) (h : RunsAt w v l) (hl : Sml l) (hw : Wt w) :
  Calls Tryz.prog 119 #[.agg #[v]] w fun e w' => e = .returned (.int .i64 (rowE l)) ∧ Below w.heap.size w w' := by
 obtain ⟨A, c, rfl⟩ := h.form
 have H := ι h
 have HL := ι hl
 have HW := ι hw
 have hll := hl.1
 clear h hl hw
 obtain ⟨G, hG⟩ : ∃ G, G = w.heap.size := ⟨_, rfl⟩
 have HG := ι hG
 by_cases h16 : 16 < l.length
 ·have HE := ι (show rowE l = 9 by unfold rowE; rw [if_pos h16])
  have t0 : decide ((16 : Int) < (l.length : Int)) = true := by simpa using (by omega : (16 : Int) < (l.length : Int))
  have h16i : (16 : Int) < (l.length : Int) := by omega
  clear h16
  go_enter Tryz.func119, Tryz.ntmps119
  go_wp2_with fail
  go_ret
  exact ⟨by rw [HE.out]; rfl, Below.more' _ _⟩
 have HE := ι (show rowE l = rowEs none l by unfold rowE; rw [if_neg h16])
 rw [HE.out]
 have h16i : ¬ (16 : Int) < (l.length : Int) := by omega
 clear h16
 go_enter Tryz.func119, Tryz.ntmps119
 go_wp2_with fail
 rw [← hG]
 generalize hw1 : World.alloc _ _ = w1
 have F1 := ι (show Held w1 G [.slice A l.length c] by subst hw1; exact Held.new hG)
 have B1 := ι (show Below w.heap.size w w1 by subst hw1; exact Below.more' _ _)
 have hG1 : G < w1.heap.size := F1.out.lt
 clear hw1 hG
 go_loopw [12] (fun i wr => ∃ k : Nat, k ≤ l.length ∧ i = .int .i64 k ∧ Hid (rowEs (prv l k) (l.drop k) = rowEs none l) ∧ Hid (Below w1.heap.size w1 wr)) (fun i _ => l.length - (intOf i).toNat)
 case atStart => exact ⟨0, Nat.zero_le _, rfl, ι rfl, ι (Below.refl _ _)⟩
 case round =>
 obtain ⟨k, hk, rfl, HF, BR⟩ := hrel
 have BW := ι (B1.out.trans (BR.out.mono B1.out.size))
 have FR := ι (F1.out.below BR.out hG1)
 by_cases hlt : k < l.length
 ·have hlt2 : (k : Int) < (l.length : Int) := by omega
  obtain ⟨x, hx⟩ : ∃ x, l[k]? = some x := ⟨_, List.getElem?_eq_getElem hlt⟩
  have HX := ι hx
  have HD := ι (rowEs_drop hx)
  have HR := ι (H.out.ext (Flat.stays _) BW.out)
  obtain ⟨g, o, rfl, q0, q1, q2, q3, q4⟩ := RunsAt.get HR.out hx
  obtain ⟨m, y, hmk, hy⟩ : ∃ m y, (0 < k → m + 1 = k) ∧ l[m]? = some y := by
   by_cases h0 : 0 < k
   ·exact ⟨k - 1, _, fun _ => by omega, List.getElem?_eq_getElem (by omega)⟩
   exact ⟨k, x, fun h => absurd h h0, hx⟩
  have HY := ι (RunsAt.get HR.out hy)
  have HY0 := ι hy
  have hml : m < l.length := (List.getElem?_eq_some_iff.1 hy).1
  obtain ⟨hs, hsr⟩ := HL.out.2 x (List.mem_of_getElem? hx)
  have hgr : g < wr.heap.size := World.block_lt_of_cell? wr _ q0
  obtain ⟨b1, hb1⟩ : ∃ b, b = valV (sB x.text) := ⟨_, rfl⟩
  obtain ⟨b4, hb4⟩ : ∃ b, b = valV (sB x.ruby) := ⟨_, rfl⟩
  obtain ⟨al, hal⟩ : ∃ b, b = alkB y x := ⟨_, rfl⟩
  obtain ⟨pk, hpk⟩ : ∃ b, b = decide (0 < k) := ⟨_, rfl⟩
  have HV1 := ι (fun W (hb : Below wr.heap.size wr W) => hb1 ▸ valid_text (sB x.text) W (by rw [sB_size]; omega) (HW.out.on (BW.out.trans (hb.mono BW.out.size))))
  have HV4 := ι (fun W (hb : Below wr.heap.size wr W) => hb4 ▸ valid_text (sB x.ruby) W (by rw [sB_size]; omega) (HW.out.on (BW.out.trans (hb.mono BW.out.size))))
  have HAL := ι (fun W => hal ▸ alike_any y x W)
  have HRE := ι (show runE (prv l k) x = if b1 = false then 10 else if x.text = [] then 4 else if 6 < x.col then 12 else if b4 = false then 10 else if (pk && al) = true then 8 else 0 by
   unfold runE
   rw [← hb1, ← hb4]
   by_cases h0 : 0 < k
   ·have e : prv l k = some y := by
     unfold prv
     rw [if_neg (by omega), show k - 1 = m by have := hmk h0; omega]
     exact hy
    rw [e, hpk, show decide (0 < k) = true by simpa using h0, Bool.true_and, hal]
   have e : prv l k = none := by
    unfold prv
    rw [if_pos (by omega)]
   rw [e, hpk, show decide (0 < k) = false by simpa using h0, Bool.false_and]
   rfl)
  have HP := ι (And.intro hpk (And.intro hmk hml))
  clear hx hy hb1 hb4 hal hpk hmk hml hs hsr
  go_wp2_with fail
  generalize hw2 : World.alloc _ _ = w2
  obtain ⟨X, hX⟩ : ∃ X, X = wr.heap.size := ⟨_, rfl⟩
  rw [← hX]
  have FX := ι (show Held w2 X x.cs by subst hw2; exact Held.new hX)
  have B2 := ι (show Below wr.heap.size wr w2 by subst hw2; exact Below.more' _ _)
  clear hw2 hX q0 q1 q2 q3 q4
  have qx := FX.out.cell
  have hXl := FX.out.lt
  unfold Rn.cs at qx
  cases b1 with
  | false =>
   have H3 := ι (show (10 : Int) = rowEs none l by rw [← HF.out, HD.out, if_neg (by rw [HRE.out, if_pos rfl]; decide), HRE.out, if_pos rfl])
   clear HF HD HRE
   go_wp2_with fail
   refine (HV1.out w2 B2.out).mono ?_
   rintro e w3 ⟨rfl, hb⟩
   clear qx
   go_wp2_with fail
   go_ret
   exact ⟨by rw [← H3.out]; rfl, BW.out.trans ((B2.out.trans (hb.mono B2.out.size)).mono BW.out.size)⟩
  | true =>
   go_wp2_with fail
   refine (HV1.out w2 B2.out).mono ?_
   rintro e w3 ⟨rfl, hb⟩
   have B3 := ι (B2.out.trans (hb.mono B2.out.size))
   have F3 := ι (FX.out.ext hb)
   clear qx hb FX
   have qx := F3.out.cell
   have hXl3 := F3.out.lt
   unfold Rn.cs at qx
   by_cases h0 : x.text = []
   ·have t0 : (sB x.text).toList.isEmpty = true := by rw [str_emp, h0]; rfl
    have H3 := ι (show (4 : Int) = rowEs none l by rw [← HF.out, HD.out, if_neg (by rw [HRE.out, if_neg (by decide), if_pos h0]; decide), HRE.out, if_neg (by decide), if_pos h0])
    clear HF HD HRE h0
    go_wp2_with fail
    go_ret
    exact ⟨by rw [← H3.out]; rfl, BW.out.trans (B3.out.mono BW.out.size)⟩
   have t0 : (sB x.text).toList.isEmpty = false := by
    rw [str_emp]
    revert h0
    cases x.text with
    | nil => exact fun h => absurd rfl h
    | cons _ _ => exact fun _ => rfl
   by_cases h6 : x.col ≤ 6
   ·have t1 : decide (x.col ≤ 6) = true := by simpa using h6
    go_wp2_with fail
    refine (svalid_any x.col x.it x.un w3).mono ?_
    rintro e w4 ⟨rfl, hb⟩
    have B4 := ι (B3.out.trans (hb.mono B3.out.size))
    have F4 := ι (F3.out.ext hb)
    clear qx hb F3
    have qx := F4.out.cell
    have hXl4 := F4.out.lt
    unfold Rn.cs at qx
    cases b4 with
    | false =>
     have H3 := ι (show (10 : Int) = rowEs none l by rw [← HF.out, HD.out, if_neg (by rw [HRE.out, if_neg (by decide), if_neg h0, if_neg (by omega), if_pos rfl]; decide), HRE.out, if_neg (by decide), if_neg h0, if_neg (by omega), if_pos rfl])
     clear HF HD HRE
     go_wp2_with fail
     refine (HV4.out w4 B4.out).mono ?_
     rintro e w5 ⟨rfl, hb⟩
     clear qx
     go_wp2_with fail
     go_ret
     exact ⟨by rw [← H3.out]; rfl, BW.out.trans ((B4.out.trans (hb.mono B4.out.size)).mono BW.out.size)⟩
    | true =>
     have HRE2 := ι (show runE (prv l k) x = if (pk && al) = true then 8 else 0 by rw [HRE.out, if_neg (by decide), if_neg h0, if_neg (by omega), if_neg (by decide)])
     clear h0 HRE
     go_wp2_with fail
     refine (HV4.out w4 B4.out).mono ?_
     rintro e w5 ⟨rfl, hb⟩
     have B5 := ι (B4.out.trans (hb.mono B4.out.size))
     have F5 := ι (F4.out.ext hb)
     clear qx hb F4
     go_wp2_with fail
     obtain ⟨N, hN⟩ : ∃ N, N = w5.heap.size := ⟨_, rfl⟩
     have hXN : X < N := by have := F5.out.lt; omega
     have B5r := ι (show Below wr.heap.size wr w5 from B5.out)
     have FG := ι (FR.out.ext B5.out)
     have hGN : G < N := by have := FG.out.lt; omega
     have HYW := ι (RunsAt.get (HR.out.ext (Flat.stays _) B5.out) HY0.out)
     obtain ⟨g2, o2, eg, y0', y1', y2', y3', y4'⟩ := HYW.out
     obtain ⟨rfl, rfl⟩ : g2 = g ∧ o2 = o := by
      injection eg with e
      injection e with e1 e2
      exact ⟨e1.symm, e2.symm⟩
     clear eg HYW
     have hgN : g2 < N := by have h : g2 < w5.heap.size := World.block_lt_of_cell? w5 _ y0'; omega
     have HSZ := ι (show ∀ W, Below N w5 W → N ≤ W.heap.size from fun W hW => by have := hW.size; omega)
     have GN := ι (show wr.heap.size ≤ N by have := B5.out.size; omega)
     have BN := ι (show Below N w5 w5 from Below.refl _ _)
     clear hN
     have e0 : w5.cell? ⟨X, 0, none⟩ = some (.string (sB x.text)) := F5.out.cell 0
     have e1 : w5.cell? ⟨X, 1, none⟩ = some (.int .u8 x.col) := F5.out.cell 1
     have e2 : w5.cell? ⟨X, 2, none⟩ = some (.bool x.it) := F5.out.cell 2
     have e3 : w5.cell? ⟨X, 3, none⟩ = some (.bool x.un) := F5.out.cell 3
     have e4 : w5.cell? ⟨X, 4, none⟩ = some (.string (sB x.ruby)) := F5.out.cell 4
     have e5 : w5.cell? ⟨G, 0, none⟩ = some (.slice (some ⟨g2, o2, none⟩) l.length c) := FG.out.cell 0
     have hpk1 : decide ((0 : Int) < (k : Int)) = pk := by rw [HP.out.1]; simp
     have hpk2 : decide (0 < k) = pk := HP.out.1.symm
     have m4 : (m : Int) < (l.length : Int) := by have := HP.out.2.2; omega
     have m4' : m < l.length := HP.out.2.2
     have m3 : pk = true → IntKind.i64.wrap ((k : Int) - 1) = (m : Int) := fun h => by
      have := HP.out.2.1 (of_decide_eq_true (HP.out.1.symm.trans h))
      rw [IntKind.wrap_i64]
      omega
     refine wp_region_spec (by kernel_rfl) (fun w' => Below N w5 w') (PhiRw X G g2 o2 m k l.length c x y pk al) 50 rfl (by kernel_rfl) (Below.refl _ _).drew ?hops ?hend
     case hops =>
      refine ⟨?o0, ?o1, ?o2, ?o3, ?o4, ?o5, ?o6, ?o7, ?o8, ?o9, ?o10, ?o11, ?o12, trivial⟩
      case o0 =>
       intro ev w8 hI δ φ
       have a3 : ev 3 = .int .i64 (k : Int) := φ 3 (by kernel_rfl)
       clear δ φ
       try dsimp only
       simp [OpRuns, execOp, evalOf, a3, go_sem]
       exact ⟨hI, rfl⟩
      case o1 =>
       intro ev w8 hI δ φ
       have a37 : ev 37 = .int .i64 (k : Int) := δ 0 37 (by kernel_rfl) rfl
       clear δ φ
       try dsimp only
       simp [OpRuns, execOp, evalOf, a37, go_sem]
       exact ⟨hI, congrArg Value.bool hpk2⟩
      case o2 =>
       intro ev w8 hI δ φ
       have a38 : ev 38 = .bool (pk) := δ 1 38 (by kernel_rfl) rfl
       clear δ φ
       try dsimp only
       simp [OpRuns, execOp, evalOf, a38, go_sem]
       exact ⟨hI, rfl⟩
      case o3 =>
       intro ev w8 hI δ φ
       have ag : ev 39 = .bool pk := δ 2 39 (by kernel_rfl) rfl
       refine γ ag rfl (fun hR => ?_) fun hn d hd => by cases hd; exact ⟨fun hr => absurd hr hn, fun _ => rfl⟩
       clear ag
       have a1 : ev 1 = .pointer (some ⟨G, 0, none⟩) := φ 1 (by kernel_rfl)
       clear δ φ
       try dsimp only
       simp [OpRuns, execOp, evalOf, a1, go_sem]
       exact ⟨hI, ⟨fun _ => rfl, fun h => absurd hR h⟩⟩
      case o4 =>
       intro ev w8 hI δ φ
       have ag : ev 39 = .bool pk := δ 2 39 (by kernel_rfl) rfl
       refine γ ag rfl (fun hR => ?_) fun hn d hd => by cases hd; exact ⟨fun hr => absurd hr hn, fun _ => rfl⟩
       clear ag
       have a40 : ev 40 = .pointer (some ⟨G, 0, none⟩) := (δ 3 40 (by kernel_rfl) rfl).1 hR
       have y0 : w8.cell? ⟨G, 0, none⟩ = some (.slice (some ⟨g2, o2, none⟩) l.length c) := (hI.cell (p := ⟨G, 0, none⟩) hGN).trans e5
       clear δ φ
       try dsimp only
       simp [OpRuns, execOp, evalOf, a40, y0, go_sem]
       exact ⟨hI, ⟨fun _ => rfl, fun h => absurd hR h⟩⟩
      case o5 =>
       intro ev w8 hI δ φ
       have ag : ev 39 = .bool pk := δ 2 39 (by kernel_rfl) rfl
       refine γ ag rfl (fun hR => ?_) fun hn d hd => by cases hd; exact ⟨fun hr => absurd hr hn, fun _ => rfl⟩
       clear ag
       have a3 : ev 3 = .int .i64 (k : Int) := φ 3 (by kernel_rfl)
       clear δ φ
       try dsimp only
       simp [OpRuns, execOp, evalOf, a3, go_sem]
       exact ⟨hI, ⟨fun _ => rfl, fun h => absurd hR h⟩⟩
      case o6 =>
       intro ev w8 hI δ φ
       have ag : ev 39 = .bool pk := δ 2 39 (by kernel_rfl) rfl
       refine γ ag rfl (fun hR => ?_) fun hn d hd => by cases hd; exact ⟨fun hr => absurd hr hn, fun _ => rfl⟩
       clear ag
       have m3' := m3 hR
       have a42 : ev 42 = .int .i64 (k : Int) := (δ 5 42 (by kernel_rfl) rfl).1 hR
       clear δ φ
       try dsimp only
       simp [OpRuns, execOp, evalOf, a42, m3', go_sem]
       exact ⟨hI, ⟨fun _ => rfl, fun h => absurd hR h⟩⟩
      case o7 =>
       intro ev w8 hI δ φ
       have ag : ev 39 = .bool pk := δ 2 39 (by kernel_rfl) rfl
       refine γ ag rfl (fun hR => ?_) fun hn d hd => by cases hd; exact ⟨fun hr => absurd hr hn, fun _ => rfl⟩
       clear ag
       have a41 : ev 41 = .slice (some ⟨g2, o2, none⟩) l.length c := (δ 4 41 (by kernel_rfl) rfl).1 hR
       have a43 : ev 43 = .int .i64 (m : Int) := (δ 6 43 (by kernel_rfl) rfl).1 hR
       clear δ φ
       try dsimp only
       simp [OpRuns, execOp, evalOf, a41, a43, m4, m4', go_sem]
       exact ⟨hI, ⟨fun _ => rfl, fun h => absurd hR h⟩⟩
      case o8 =>
       intro ev w8 hI δ φ
       have ag : ev 39 = .bool pk := δ 2 39 (by kernel_rfl) rfl
       refine γ ag rfl (fun hR => ?_) fun hn d hd => by cases hd; exact ⟨fun hr => absurd hr hn, fun _ => rfl⟩
       clear ag
       have a44 : ev 44 = .pointer (some ⟨g2, o2 + m * 5, none⟩) := (δ 7 44 (by kernel_rfl) rfl).1 hR
       have y0 : w8.cell? ⟨g2, o2 + m * 5, none⟩ = some (.string (sB y.text)) := (hI.cell (p := ⟨g2, o2 + m * 5, none⟩) hgN).trans y0'
       have y1 : w8.cell? ⟨g2, o2 + m * 5 + 1, none⟩ = some (.int .u8 y.col) := (hI.cell (p := ⟨g2, o2 + m * 5 + 1, none⟩) hgN).trans y1'
       have y2 : w8.cell? ⟨g2, o2 + m * 5 + 2, none⟩ = some (.bool y.it) := (hI.cell (p := ⟨g2, o2 + m * 5 + 2, none⟩) hgN).trans y2'
       have y3 : w8.cell? ⟨g2, o2 + m * 5 + 3, none⟩ = some (.bool y.un) := (hI.cell (p := ⟨g2, o2 + m * 5 + 3, none⟩) hgN).trans y3'
       have y4 : w8.cell? ⟨g2, o2 + m * 5 + 4, none⟩ = some (.string (sB y.ruby)) := (hI.cell (p := ⟨g2, o2 + m * 5 + 4, none⟩) hgN).trans y4'
       clear δ φ
       try dsimp only
       simp [OpRuns, execOp, evalOf, a44, y0, y1, y2, y3, y4, go_sem]
       exact ⟨hI, ⟨fun _ => rfl, fun h => absurd hR h⟩⟩
      case o9 =>
       intro ev w8 hI δ φ
       have ag : ev 39 = .bool pk := δ 2 39 (by kernel_rfl) rfl
       refine γ ag rfl (fun hR => ?_) fun hn d hd => by cases hd; exact ⟨fun hr => absurd hr hn, fun _ => rfl⟩
       clear ag
       have a4 : ev 4 = .pointer (some ⟨X, 0, none⟩) := φ 4 (by kernel_rfl)
       have y0 : w8.cell? ⟨X, 0, none⟩ = some (.string (sB x.text)) := (hI.cell (p := ⟨X, 0, none⟩) hXN).trans e0
       have y1 : w8.cell? ⟨X, 1, none⟩ = some (.int .u8 x.col) := (hI.cell (p := ⟨X, 1, none⟩) hXN).trans e1
       have y2 : w8.cell? ⟨X, 2, none⟩ = some (.bool x.it) := (hI.cell (p := ⟨X, 2, none⟩) hXN).trans e2
       have y3 : w8.cell? ⟨X, 3, none⟩ = some (.bool x.un) := (hI.cell (p := ⟨X, 3, none⟩) hXN).trans e3
       have y4 : w8.cell? ⟨X, 4, none⟩ = some (.string (sB x.ruby)) := (hI.cell (p := ⟨X, 4, none⟩) hXN).trans e4
       clear δ φ
       try dsimp only
       simp [OpRuns, execOp, evalOf, a4, y0, y1, y2, y3, y4, go_sem]
       exact ⟨hI, ⟨fun _ => rfl, fun h => absurd hR h⟩⟩
      case o10 =>
       intro ev w8 hI δ φ
       have ag : ev 39 = .bool pk := δ 2 39 (by kernel_rfl) rfl
       refine γ ag rfl (fun hR => ?_) fun hn d hd => by cases hd; exact ⟨fun hr => absurd hr hn, fun _ => rfl⟩
       clear ag
       have a45 : ev 45 = .agg #[.string (sB y.text), .int .u8 y.col, .bool y.it, .bool y.un, .string (sB y.ruby)] := (δ 8 45 (by kernel_rfl) rfl).1 hR
       have a46 : ev 46 = .agg #[.string (sB x.text), .int .u8 x.col, .bool x.it, .bool x.un, .string (sB x.ruby)] := (δ 9 46 (by kernel_rfl) rfl).1 hR
       clear δ φ
       try dsimp only
       refine runs_call (f := 157) (args := #[.agg #[.string (sB y.text), .int .u8 y.col, .bool y.it, .bool y.un, .string (sB y.ruby)], .agg #[.string (sB x.text), .int .u8 x.col, .bool x.it, .bool x.un, .string (sB x.ruby)]]) (by simp [execOp, evalOf, resolve, invoke, a45, a46, go_sem]) ((HAL.out w8).mono ?_)
       rintro e w9 ⟨he, hb⟩
       exact ⟨_, he, hI.trans (hb.mono (HSZ.out w8 hI)), fun s u h => h, fun d hd => by cases hd; exact ⟨fun _ => rfl, fun h => absurd hR h⟩⟩
      case o11 =>
       intro ev w8 hI δ φ
       have a39 : ev 39 = .bool (pk) := δ 2 39 (by kernel_rfl) rfl
       have ax : pk = true → ev 47 = .bool al := fun hc => (δ 10 47 (by kernel_rfl) rfl).1 hc
       clear δ φ
       obtain ⟨cc, hcc⟩ : ∃ cc, cc = pk := ⟨_, rfl⟩
       rw [← hcc] at a39
       cases cc with
       | true =>
        have ax := ax hcc.symm
        have hv : (Value.bool (al)) = (Value.bool (pk && al)) := by rw [← hcc]; simp
        clear hcc
        try dsimp only
        simp [OpRuns, execOp, evalOf, a39, ax, go_sem]
        exact ⟨hI, hv⟩
       | false =>
        clear ax
        have hv : Value.bool false = (Value.bool (pk && al)) := by rw [← hcc]; simp
        clear hcc
        try dsimp only
        simp [OpRuns, execOp, evalOf, a39, go_sem]
        exact ⟨hI, hv⟩
      case o12 =>
      intro ev w8 hI δ φ
      have a48 : ev 48 = .bool (pk && al) := δ 11 48 (by kernel_rfl) rfl
      clear δ φ
      try dsimp only
      simp [OpRuns, execOp, evalOf, a48, go_sem]
      exact ⟨hI, rfl⟩
     case hend =>
     intro a w6 hdf hsz hI hPhi κ
     replace hdf : a.defers = [] := hdf
     replace hsz : a.tmps.size = 50 := hsz
     have x36 : a.tmps.getD 36 undef = .bool (pk && al) := hPhi 12 36 (by kernel_rfl)
     have x0 : a.tmps.getD 0 undef = Value.agg #[Value.slice (some { block := g2, off := o2 }) l.length c] := κa κ 0 rfl
     have x1 : a.tmps.getD 1 undef = Value.pointer (some { block := G, off := 0 }) := κa κ 1 rfl
     have x2 : a.tmps.getD 2 undef = u2 := κa κ 2 rfl
     have x3 : a.tmps.getD 3 undef = Value.int IntKind.i64 (↑k : Int) := κa κ 3 rfl
     have x4 : a.tmps.getD 4 undef = Value.pointer (some { block := X, off := 0 }) := κa κ 4 rfl
     have x5 : a.tmps.getD 5 undef = Value.pointer (some { block := G, off := 0 }) := κa κ 5 rfl
     have x6 : a.tmps.getD 6 undef = Value.slice (some { block := g2, off := o2 }) l.length c := κa κ 6 rfl
     have x7 : a.tmps.getD 7 undef = Value.int IntKind.i64 (↑l.length : Int) := κa κ 7 rfl
     have x8 : a.tmps.getD 8 undef = Value.bool false := κa κ 8 rfl
     have x9 : a.tmps.getD 9 undef = Value.pointer (some { block := G, off := 0 }) := κa κ 9 rfl
     have x10 : a.tmps.getD 10 undef = Value.slice (some { block := g2, off := o2 }) l.length c := κa κ 10 rfl
     have x11 : a.tmps.getD 11 undef = Value.int IntKind.i64 (↑l.length : Int) := κa κ 11 rfl
     have x12 : a.tmps.getD 12 undef = Value.int IntKind.i64 (↑k : Int) := κa κ 12 rfl
     have x13 : a.tmps.getD 13 undef = Value.bool true := κa κ 13 rfl
     have x14 : a.tmps.getD 14 undef = Value.int IntKind.i64 (↑k : Int) := κa κ 14 rfl
     have x15 : a.tmps.getD 15 undef = Value.pointer (some { block := g2, off := o2 + k * 5 }) := κa κ 15 rfl
     have x16 : a.tmps.getD 16 undef = Value.agg #[Value.string (sB x.text), Value.int IntKind.u8 x.col, Value.bool x.it, Value.bool x.un, Value.string (sB x.ruby)] := κa κ 16 rfl
     have x17 : a.tmps.getD 17 undef = Value.bool false := κa κ 17 rfl
     have x18 : a.tmps.getD 18 undef = Value.pointer (some { block := X, off := 0 }) := κa κ 18 rfl
     have x19 : a.tmps.getD 19 undef = Value.string (sB x.text) := κa κ 19 rfl
     have x20 : a.tmps.getD 20 undef = Value.bool true := κa κ 20 rfl
     have x21 : a.tmps.getD 21 undef = Value.bool false := κa κ 21 rfl
     have x22 : a.tmps.getD 22 undef = Value.bool false := κa κ 22 rfl
     have x23 : a.tmps.getD 23 undef = Value.pointer (some { block := X, off := 0 }) := κa κ 23 rfl
     have x24 : a.tmps.getD 24 undef = Value.string (sB x.text) := κa κ 24 rfl
     have x25 : a.tmps.getD 25 undef = Value.bool false := κa κ 25 rfl
     have x26 : a.tmps.getD 26 undef = Value.bool false := κa κ 26 rfl
     have x27 : a.tmps.getD 27 undef = Value.pointer (some { block := X, off := 1 }) := κa κ 27 rfl
     have x28 : a.tmps.getD 28 undef = Value.agg #[Value.int IntKind.u8 x.col, Value.bool x.it, Value.bool x.un] := κa κ 28 rfl
     have x29 : a.tmps.getD 29 undef = Value.bool true := κa κ 29 rfl
     have x30 : a.tmps.getD 30 undef = Value.bool false := κa κ 30 rfl
     have x31 : a.tmps.getD 31 undef = Value.bool false := κa κ 31 rfl
     have x32 : a.tmps.getD 32 undef = Value.pointer (some { block := X, off := 4 }) := κa κ 32 rfl
     have x33 : a.tmps.getD 33 undef = Value.string (sB x.ruby) := κa κ 33 rfl
     have x34 : a.tmps.getD 34 undef = Value.bool true := κa κ 34 rfl
     have x35 : a.tmps.getD 35 undef = Value.bool false := κa κ 35 rfl
     have x49 : a.tmps.getD 49 undef = u49 := κa κ 49 rfl
     have ea := act_lit hsz hdf
     simp only [getDs] at ea
     rw [x36, x0, x1, x2, x3, x4, x5, x6, x7, x8, x9, x10, x11, x12, x13, x14, x15, x16, x17, x18, x19, x20, x21, x22, x23, x24, x25, x26, x27, x28, x29, x30, x31, x32, x33, x34, x35, x49] at ea
     rw [ea]
     clear ea x36 x0 x1 x2 x3 x4 x5 x6 x7 x8 x9 x10 x11 x12 x13 x14 x15 x16 x17 x18 x19 x20 x21 x22 x23 x24 x25 x26 x27 x28 x29 x30 x31 x32 x33 x34 x35 x49 hPhi κ hdf hsz
     generalize a.tmps.getD 37 undef = u37, a.tmps.getD 38 undef = u38, a.tmps.getD 39 undef = u39, a.tmps.getD 40 undef = u40, a.tmps.getD 41 undef = u41, a.tmps.getD 42 undef = u42, a.tmps.getD 43 undef = u43, a.tmps.getD 44 undef = u44, a.tmps.getD 45 undef = u45, a.tmps.getD 46 undef = u46, a.tmps.getD 47 undef = u47, a.tmps.getD 48 undef = u48
     clear a
     clear hpk1 hpk2 m4 m4' m3 e0 e1 e2 e3 e4 e5 y0' y1' y2' y3' y4'
     have HI6 := ι (show Below wr.heap.size wr w6 from B5r.out.trans (hI.mono GN.out))
     clear hI HSZ HAL
     cases hr : (pk && al) with
     | true =>
      have H3 := ι (show (8 : Int) = rowEs none l by rw [← HF.out, HD.out, if_neg (by rw [HRE2.out, if_pos hr]; decide), HRE2.out, if_pos hr])
      clear hr HF HD HRE2
      go_wp2_with fail
      go_ret
      exact ⟨by rw [← H3.out]; rfl, BW.out.trans (HI6.out.mono BW.out.size)⟩
     | false =>
      have H3 := ι (show rowEs (prv l (k + 1)) (l.drop (k + 1)) = rowEs none l by rw [← HF.out, HD.out, if_pos (by rw [HRE2.out, if_neg (by rw [hr]; decide)])])
      clear hr HF HD HRE2
      go_wp2_with fail
      go_roundw
      case rel => exact ⟨k + 1, by omega, by go_num, H3, ι (BR.out.trans (HI6.out.mono BR.out.size))⟩
      case measure => simp [intOf]; omega
   have t1 : decide (x.col ≤ 6) = false := by simpa using h6
   have H3 := ι (show (12 : Int) = rowEs none l by rw [← HF.out, HD.out, if_neg (by rw [HRE.out, if_neg (by decide), if_neg h0, if_pos (by omega)]; decide), HRE.out, if_neg (by decide), if_neg h0, if_pos (by omega)])
   clear HF HD HRE h0 h6
   go_wp2_with fail
   refine (svalid_any x.col x.it x.un w3).mono ?_
   rintro e w4 ⟨rfl, hb⟩
   clear qx
   go_wp2_with fail
   go_ret
   exact ⟨by rw [← H3.out]; rfl, BW.out.trans ((B3.out.trans (hb.mono B3.out.size)).mono BW.out.size)⟩
 obtain rfl : k = l.length := by omega
 have H3 := ι (show 0 = rowEs none l by rw [← HF.out, List.drop_length, rowEs_nil])
 clear hlt HF
 go_wp2_with fail
 go_ret
 exact ⟨by rw [← H3.out]; rfl, BW.out⟩
def badB (t : List UInt8) : Bool := t.isEmpty || decide ((bt (sB t) 0).toNat = 32) || decide ((bt (sB t) (t.length - 1)).toNat = 32) || Lib.contains t [32, 32]
theorem rowEs_text : ∀ {l : List Rn} {p : Option Rn}, rowEs p l = 0 → ∀ x ∈ l, x.text ≠ []
 | [], _, _, x, hx => by cases hx
 | y :: t, p, h, x, hx => by
  unfold rowEs at h
  split at h
  ·rename_i h0
   rcases List.mem_cons.1 hx with rfl | hx
   ·intro e
    unfold runE at h0
    split at h0
    ·cases h0
    first | (rw [if_pos e] at h0; cases h0) | (simp [e] at h0; done) | cases h0
   exact rowEs_text h x hx
  rename_i h0
  exact absurd h h0
theorem rowE_zero {l : List Rn} (h : rowE l = 0) : l.length ≤ 16 ∧ ∀ x ∈ l, x.text ≠ [] := by
 unfold rowE at h
 split at h
 ·cases h
 exact ⟨by omega, rowEs_text h⟩
def erowE (l : List Rn) : Int := if rowE l ≠ 0 then rowE l else if badB (plnV l) = true then 4 else if 32 < rowLen l 0 then 11 else 0
theorem rowLen_range : ∀ {l : List Rn} {n : Int}, (∀ x ∈ l, x.text.length ≤ 2000000) → 0 ≤ n → -1 ≤ rowLen l n ∧ rowLen l n ≤ n + 2000000 * l.length
 | [], n, _, h0 => by unfold rowLen; simp; omega
 | x :: t, n, h, h0 => by
  have hr := lenV_range (sB x.text) (by rw [sB_size]; have := h x List.mem_cons_self; omega)
  unfold rowLen
  rw [List.length_cons]
  split
  ·omega
  have := rowLen_range (l := t) (n := n + lenV (sB x.text)) (fun y hy => h y (List.mem_cons_of_mem _ hy)) (by omega)
  omega
theorem erow_any (v : Value) (l : List Rn) (w : World) (h : RunsAt w v l) (hl : Sml l) (hw : Wt w) :
  Calls Tryz.prog 83 #[.agg #[v]] w fun e w' => e = .returned (.int .i64 (erowE l)) ∧ Below w.heap.size w w' := by
 have H := ι h
 have HL := ι hl
 have HW := ι hw
 obtain ⟨A, c, rfl⟩ := h.form
 clear h hl hw
 obtain ⟨G, hG⟩ : ∃ G, G = w.heap.size := ⟨_, rfl⟩
 go_enter Tryz.func83, Tryz.ntmps83
 go_wp2_with fail
 rw [← hG]
 generalize hw1 : World.alloc _ _ = w1
 have F1 := ι (show Held w1 G [.slice A l.length c] by subst hw1; exact Held.new hG)
 have B1 := ι (show Below w.heap.size w w1 by subst hw1; exact Below.more' _ _)
 clear hw1 hG
 refine (scheck_any _ l w1 (H.out.ext (Flat.stays _) B1.out) HL.out (HW.out.on B1.out)).mono ?_
 rintro e w2 ⟨rfl, hb⟩
 have B2 := ι (B1.out.trans (hb.mono B1.out.size))
 have F2 := ι (F1.out.ext hb)
 clear hb B1 F1
 have q := F2.out.cell
 have hG2 := F2.out.lt
 by_cases h0 : rowE l = 0
 ·obtain ⟨h16, hne⟩ := rowE_zero h0
  have HNE := ι hne
  have HE := ι (show erowE l = if badB (plnV l) = true then 4 else if 32 < rowLen l 0 then 11 else 0 by unfold erowE; rw [if_neg (by rw [h0]; simp)])
  have H0 := ι h0
  rw [h0]
  clear h0 hne
  go_wp2_with fail
  refine (plain_any _ l w2 (H.out.ext (Flat.stays _) B2.out) HL.out HNE.out h16).mono ?_
  rintro e w3 ⟨rfl, hb⟩
  have B3 := ι (B2.out.trans (hb.mono B2.out.size))
  have F3 := ι (F2.out.ext hb)
  clear hb B2 F2 q
  have q := F3.out.cell
  have hG3 := F3.out.lt
  have hpl := plnV_len (l := l) (fun y hy => (HL.out.2 y hy).1)
  have hrl := rowLen_range (l := l) (n := 0) (fun y hy => (HL.out.2 y hy).1) (Int.le_refl 0)
  generalize hT : plnV l = T at *
  have HLN := ι (fun W (hb : Below w3.heap.size w3 W) => slen_any (.slice A l.length c) l W (H.out.ext (Flat.stays _) (B3.out.trans (hb.mono B3.out.size))) HL.out (HW.out.on (B3.out.trans (hb.mono B3.out.size))))
  obtain ⟨m, hm⟩ := (HW.out.on B3.out).mx
  have HC := ι (Tryz.strings_Contains (sB T) ⟨#[32, 32]⟩ m w3 (by rw [sB_size]; omega) hm)
  rw [sB_list, show (ByteArray.mk #[32, 32]).data.toList = [32, 32] from rfl] at HC
  clear hm hT
  by_cases hTe : T = []
  ·subst hTe
   have t0 : (sB []).toList.isEmpty = true := str_emp []
   have HE2 := ι (show erowE l = 4 by rw [HE.out, if_pos (by unfold badB; rfl)])
   go_wp2_with fail
   go_ret
   exact ⟨by rw [HE2.out]; rfl, B3.out⟩
  have hTl : 0 < T.length := List.length_pos_iff.2 hTe
  have t0 : (sB T).toList.isEmpty = false := by
   rw [str_emp]
   cases T with
   | nil => exact absurd rfl hTe
   | cons _ _ => rfl
  have i0 := fun W => idx_str (s := sB T) (x := 0) (j := 0) rfl (by rw [sB_size]; exact hTl) W
  have i1 := fun W => idx_str (s := sB T) (x := (T.length : Int) - 1) (j := T.length - 1) (by omega) (by rw [sB_size]; omega) W
  have hsz : (sB T).size = T.length := sB_size T
  have hbad : badB T = (decide ((bt (sB T) 0).toNat = 32) || decide ((bt (sB T) (T.length - 1)).toNat = 32) || Lib.contains T [32, 32]) := by
   unfold badB
   rw [show T.isEmpty = false by rw [← str_emp]; exact t0, Bool.false_or]
  rw [hbad] at HE
  clear hbad hTe
  have hw1 : IntKind.i64.wrap ((T.length : Int) - 1) = (T.length : Int) - 1 := by rw [IntKind.wrap_i64]; omega
  generalize (bt (sB T) 0).toNat = p0 at *
  generalize (bt (sB T) (T.length - 1)).toNat = p1 at *
  generalize Lib.contains T [32, 32] = cb at *
  have HQ := ι q
  by_cases h0 : p0 = 32
  ·subst h0
   have HE2 := ι (show erowE l = 4 by rw [HE.out, if_pos (by simp)])
   go_wp2_with fail
   go_ret
   exact ⟨by rw [HE2.out]; rfl, B3.out⟩
  have t1 : ((p0 : Int) == 32) = false := by simp; omega
  by_cases h1 : p1 = 32
  ·subst h1
   have HE2 := ι (show erowE l = 4 by rw [HE.out, if_pos (by simp)])
   clear h0
   go_wp2_with fail
   go_ret
   exact ⟨by rw [HE2.out]; rfl, B3.out⟩
  have t2 : ((p1 : Int) == 32) = false := by simp; omega
  have HE1 := ι (show erowE l = if cb = true then 4 else if 32 < rowLen l 0 then 11 else 0 by rw [HE.out, show decide (p0 = 32) = false by simpa using h0, show decide (p1 = 32) = false by simpa using h1, Bool.false_or, Bool.false_or])
  clear h0 h1
  go_wp2_with fail
  refine HC.out.mono ?_
  rintro e w4 ⟨rfl, rfl⟩
  clear i0 i1 hsz
  cases cb with
  | true =>
   go_wp2_with fail
   go_ret
   exact ⟨by rw [HE1.out]; rfl, B3.out⟩
  | false =>
   go_wp2_with fail
   refine (HLN.out _ (Below.refl _ _)).mono ?_
   rintro e w5 ⟨rfl, hb⟩
   generalize rowLen l 0 = rl at *
   by_cases h3 : 32 < rl
   ·have t3 : decide (32 < rl) = true := by simpa using h3
    have HE3 := ι (show erowE l = 11 by rw [HE1.out, if_neg (by decide), if_pos h3])
    clear q
    go_wp2_with fail
    go_ret
    exact ⟨by rw [HE3.out]; rfl, B3.out.trans (hb.mono B3.out.size)⟩
   have t3 : decide (32 < rl) = false := by simpa using h3
   have HE3 := ι (show erowE l = 0 by rw [HE1.out, if_neg (by decide), if_neg h3])
   clear q
   go_wp2_with fail
   go_ret
   exact ⟨by rw [HE3.out]; rfl, B3.out.trans (hb.mono B3.out.size)⟩
 have HE := ι (show erowE l = rowE l by unfold erowE; rw [if_pos h0])
 have t0 : (rowE l != 0) = true := by simpa using h0
 clear h0
 go_wp2_with fail
 go_ret
 exact ⟨by rw [HE.out]; rfl, B2.out⟩
def spB (i o : Int) : Bool := decide (0 ≤ i) && decide (i < o) && decide (o ≤ 5184000)
theorem spans_any (i o : Int) (w : World) :
  Calls Tryz.prog 81 #[.agg #[.int .i64 i, .int .i64 o]] w fun e w' => e = .returned (.bool (spB i o)) ∧ Below w.heap.size w w' := by
 unfold spB
 by_cases h0 : 0 ≤ i
 ·have t0 : decide (0 ≤ i) = true := by simpa using h0
  by_cases h1 : i < o
  ·have t1 : decide (i < o) = true := by simpa using h1
   go_enter Tryz.func81, Tryz.ntmps81
   go_wp2_with fail
   go_ret
   first | exact ⟨rfl, Below.more' _ _⟩ | exact ⟨by rw [t0, t1]; rfl, Below.more' _ _⟩
  have t1 : decide (i < o) = false := by simpa using h1
  go_enter Tryz.func81, Tryz.ntmps81
  go_wp2_with fail
  go_ret
  first | exact ⟨rfl, Below.more' _ _⟩ | exact ⟨by rw [t0, t1]; rfl, Below.more' _ _⟩
 have t0 : decide (0 ≤ i) = false := by simpa using h0
 go_enter Tryz.func81, Tryz.ntmps81
 go_wp2_with fail
 go_ret
 first | exact ⟨rfl, Below.more' _ _⟩ | exact ⟨by rw [t0]; rfl, Below.more' _ _⟩
def kdB (k : Int) : Bool := decide (1 ≤ k) && decide (k ≤ 4)
def KindP (k : Int) (w : World) (e : Ending) (w' : World) : Prop := ∃ s : List UInt8, e = .returned (.string (sB s)) ∧ s.isEmpty = !kdB k ∧ Below w.heap.size w w'
theorem kind_any (k : Int) (h0 : 0 ≤ k) (h1 : k ≤ 255) (w : World) :
  Calls Tryz.prog 82 #[.int .u8 k] w (KindP k w) := by
 by_cases h : k < 1
 ·have t0 : decide (k < 1) = true := by simpa using h
  go_enter Tryz.func82, Tryz.ntmps82
  go_wp2_with fail
  go_ret
  exact ⟨[], rfl, by unfold kdB; rw [show decide (1 ≤ k) = false by simp; omega]; rfl, Below.refl _ _⟩
 by_cases h4 : 4 < k
 ·have t0 : decide (k < 1) = false := by simpa using h
  have t1 : decide (4 < k) = true := by simpa using h4
  go_enter Tryz.func82, Tryz.ntmps82
  go_wp2_with fail
  go_ret
  exact ⟨[], rfl, by unfold kdB; rw [show decide (k ≤ 4) = false by simp; omega, Bool.and_false]; rfl, Below.refl _ _⟩
 rcases (by omega : k = 1 ∨ k = 2 ∨ k = 3 ∨ k = 4) with rfl | rfl | rfl | rfl
 all_goals
  clear h h4 h0 h1
  go_enter Tryz.func82, Tryz.ntmps82
  go_wp2
  go_ret
 ·exact ⟨[68, 73, 65, 76, 79, 71, 85, 69], rfl, rfl, Below.more' _ _⟩
 ·exact ⟨[83, 79, 85, 78, 68], rfl, rfl, Below.more' _ _⟩
 ·exact ⟨[84, 73, 84, 76, 69], rfl, rfl, Below.more' _ _⟩
 exact ⟨[77, 85, 83, 73, 67], rfl, rfl, Below.more' _ _⟩
def SmlR (rows : List (List Rn)) : Prop := rows.length ≤ 2000000 ∧ ∀ r ∈ rows, Sml r
def lensV (rows : List (List Rn)) : List Int := rows.map (fun l => rowLen l 0)
theorem infoI : (Tryz.prog.info? 3).map (fun i => (i.zero, i.size, i.bytes)) = some (some (.int .i64 0), 1, 8) := by kernel_rfl
theorem lensV_snoc {rows : List (List Rn)} {k : Nat} {r : List Rn} (hk : rows[k]? = some r) : lensV (rows.take (k + 1)) = lensV (rows.take k) ++ [rowLen r 0] := by
 unfold lensV
 rw [take_snocG hk, List.map_append]
 rfl
def LensP (L : List Int) (w : World) (e : Ending) (w' : World) : Prop := (∃ A c, e = .returned (.slice A L.length c) ∧ IntsAt w' A L ∧ L.length ≤ c ∧ c ≤ maxLen) ∧ Below w.heap.size w w'
theorem lens_any (x : Ev) (rv : Value) (w : World) (h : RowsAt w rv x.rows) (hl : SmlR x.rows) (hw : Wt w) :
  Calls Tryz.prog 85 #[x.v rv] w (LensP (lensV x.rows) w) := by
 obtain ⟨i0, hi, hz0, hz1, hz2⟩ := info_parts infoI
 have HI0 := ι (And.intro hi (And.intro hz0 (And.intro hz1 hz2)))
 clear hi hz0 hz1 hz2
 have H := ι h
 have HL := ι hl
 have HW := ι hw
 obtain ⟨A, c, rfl⟩ := h.form
 have hll := hl.1
 clear h hl hw
 obtain ⟨id, i, o, reg, kind, spk, rows⟩ := x
 unfold Ev.v
 dsimp only at H HL hll ⊢
 obtain ⟨G, hG⟩ : ∃ G, G = w.heap.size := ⟨_, rfl⟩
 have HG := ι hG
 go_enter Tryz.func85, Tryz.ntmps85
 go_wp2_with fail
 rw [← hG]
 generalize hw1 : World.alloc _ _ = w1
 have B1 := ι (show Below w.heap.size w w1 by subst hw1; exact Below.more' _ _)
 have hN : w.heap.size ≤ w1.heap.size := B1.out.size
 clear hw1 hG
 go_loopw [3, 9] (fun v i wr => ∃ k : Nat, k ≤ rows.length ∧ i = .int .i64 k ∧ Hid (wr.ownsRow w1.heap.size 3 1 v k ((lensV (rows.take k)).map (Value.int .i64))) ∧ Hid (Below w1.heap.size w1 wr)) (fun _ i _ => rows.length - (intOf i).toNat)
 case atStart => exact ⟨0, Nat.zero_le _, rfl, ι (World.ownsRow_nil _ _ _ _), ι (Below.refl _ _)⟩
 case round =>
 obtain ⟨k, hk, rfl, HO, BR⟩ := hrel
 have BW := ι (B1.out.trans (BR.out.mono hN))
 by_cases hlt : k < rows.length
 ·have hlt2 : (k : Int) < (rows.length : Int) := by omega
  obtain ⟨r, hx⟩ : ∃ r, rows[k]? = some r := ⟨_, List.getElem?_eq_getElem hlt⟩
  have HD := ι (lensV_snoc hx)
  obtain ⟨b, o', u, rfl, q0, hu⟩ := RowsAt.get (H.out.ext RowC.stays BW.out) hx
  have HU := ι hu
  obtain ⟨A2, c2, rfl⟩ := hu.form
  have HS := ι (HL.out.2 r (List.mem_of_getElem? hx))
  have hbr : b < wr.heap.size := World.block_lt_of_cell? wr _ q0
  clear hx hu
  go_wp2_with fail
  generalize hw2 : World.alloc wr _ = w2
  have B2 := ι (show Below wr.heap.size wr w2 by subst hw2; exact Below.more' _ _)
  clear hw2
  refine (slen_any _ r w2 (HU.out.ext (Flat.stays _) B2.out) HS.out (HW.out.on (BW.out.trans (B2.out.mono BW.out.size)))).mono ?_
  rintro e w3 ⟨rfl, hb⟩
  have B3 := ι (show Below wr.heap.size wr w3 from B2.out.trans (hb.mono B2.out.size))
  have HO3 := ι (own_ext HO.out B3.out)
  have hs3 : w1.heap.size ≤ w3.heap.size := by have := BR.out.size; have := B3.out.size; omega
  have BR3 := ι (BR.out.trans (B3.out.mono BR.out.size))
  clear hb q0 B2 HO BR B3
  go_wp2_with (at_builtin; go_loud (refine wpList_append_own _ rfl _ _ 152 rfl w1.heap.size 3 i0 (.int .i64 0) 1 8 Tryz.underlying152 HI0.out.1 HI0.out.2.1 HI0.out.2.2.1 HI0.out.2.2.2 rfl (by decide) _ k _ rfl (own_ext HO3.out (Below.more' _ _)) ⟨w3.heap.size, 0, none⟩ 1 1 [.int .i64 (rowLen r 0)] rfl rfl (World.news_of_block (heap_at w3 _ rfl)) (by simp [Value.oneCell']) (by simp only [maxLen]; omega) (by omega) (by simp; omega) ?_))
  intro v4 w4 ho4 hgr4 _
  have HO4 := ι (show w4.ownsRow w1.heap.size 3 1 v4 (k + 1) ((lensV (rows.take (k + 1))).map (Value.int .i64)) by rw [HD.out, List.map_append]; exact ho4)
  have BR4 := ι (show Below w1.heap.size w1 w4 from (BR3.out.alloc hs3 _).grown hgr4 (by simp; omega) (own_base HO3.out))
  clear ho4 hgr4 HO3 BR3
  go_wp2_with fail
  go_roundw
  case rel => exact ⟨k + 1, by omega, by go_num, HO4, BR4⟩
  case measure => simp [intOf]; omega
 obtain rfl : k = rows.length := by omega
 rw [List.take_length] at HO
 have HO2 := ι (ints_of_own HO.out)
 have hlen : (lensV rows).length = rows.length := by unfold lensV; rw [List.length_map]
 clear hlt
 go_wp2_with fail
 go_ret
 obtain ⟨A3, c3, hv, hi3, g1, g2⟩ := HO2.out
 rw [hlen] at hv
 exact ⟨⟨A3, c3, by rw [hlen, ← hv]; rfl, hi3, g1, g2⟩, BW.out⟩
end Go.Proofs.YtmopjhbfobmklaaGreatDoor
