/-
  The contracts of Of (edit lists), conformSmall, documentOfReel and Find (documents). Their conditions are their hypotheses.
-/
import Derived.Test.YtmopjhbfobmklaaGreatDoorMH0
import Derived.Test.YtmopjhbfobmklaaGreatDoorMG3
namespace Go.Proofs.YtmopjhbfobmklaaGreatDoor
open Go.RowKit Go.Joins
set_option linter.unusedVariables false
set_option linter.unusedSimpArgs false
theorem lof_any (d : Lst) (A : Option Addr) (n cp : Nat) (w : World) :
  Calls Tryz.prog 7 #[d.v (.slice A n cp)] w fun e w' => e = .returned (d.v (.slice A n cp)) ∧ Below w.heap.size w w' := by
 obtain ⟨G, hG⟩ : ∃ G, G = w.heap.size := ⟨_, rfl⟩
 have HG := Lib.hid hG
 rw [show d.v (.slice A n cp) = .agg #[.string (sB d.title), .int .u8 d.rate, .bool d.drop, .slice A n cp] from rfl]
 go_enter Tryz.func7, Tryz.ntmps7
 go_wp2_with (with_reducible refine stop_at ?_)
 unfold StopAt
 generalize hw2 : World.alloc (World.alloc w _) _ = w2
 have e : ∀ o, (w.alloc o).heap.size = w.heap.size + 1 := fun o => by simp
 have R3 := Lib.hid (show Held w2 (w.heap.size + 1) (d.cs (.slice A n cp)) by subst hw2; exact Held.new (e _).symm)
 have B3 := Lib.hid (show Below w.heap.size w w2 by subst hw2; exact (Below.more' _ _).alloc (by rw [e]; exact Nat.le_succ _) _)
 clear hw2
 have fr := R3.out.cell
 unfold Lst.cs at fr
 refine bodyPost_ret (by simp [results, Tryz.results7, fr, go_sem]; try rfl) rfl ?_
 exact ⟨rfl, B3.out⟩
/-- How many events, regions and comments the first documents have. -/
def cntL : Nat → List Rd → Nat
 | n, [] => n
 | n, x :: t => cntL (n + (x.doc.evs.length + x.doc.regs.length + x.doc.cms.length)) t
theorem cntL_drop {n : Nat} {l : List Rd} {k : Nat} {x : Rd} (hk : l[k]? = some x) : cntL n (l.drop k) = cntL (n + (x.doc.evs.length + x.doc.regs.length + x.doc.cms.length)) (l.drop (k + 1)) := by
 rw [List.drop_eq_getElem_cons (List.getElem?_eq_some_iff.1 hk).1, (List.getElem?_eq_some_iff.1 hk).2]
 rfl
def smallB (l : List Rd) (c : List Ct) : Bool := (decide (l.length ≤ 6) && decide (c.length ≤ 8)) && decide (cntL 0 l ≤ 40)
/-- Documents whose numbers and texts are those of a machine. -/
structure RdsOk (l : List Rd) : Prop where
 len : l.length ≤ 2000000
 docs : ∀ x ∈ l, DcOk x.doc
set_option maxHeartbeats 4000000 in
theorem small_any (v : Value) (l : List Rd) (d : Lst) (c : Value) (w : World) (h : RdsAt w v l) (ho : RdsOk l) (hc : CutsAt w c d.cuts) :
  Calls Tryz.prog 8 #[v, d.v c] w fun e w' => e = .returned (.bool (smallB l d.cuts)) ∧ Below w.heap.size w w' := by
 obtain ⟨A, cp, rfl⟩ := h.form
 obtain ⟨A2, cp2, rfl⟩ := hc.form
 have HC := Lib.hid h
 have HO := Lib.hid ho
 have hl := ho.len
 clear h hc ho
 obtain ⟨G, hG⟩ : ∃ G, G = w.heap.size := ⟨_, rfl⟩
 rw [show d.v (.slice A2 d.cuts.length cp2) = .agg #[.string (sB d.title), .int .u8 d.rate, .bool d.drop, .slice A2 d.cuts.length cp2] from rfl]
 go_enter Tryz.func8, Tryz.ntmps8
 go_wp2_with fail
 rw [← hG]
 generalize hw1 : World.alloc _ _ = w1
 have F1 := Lib.hid (show Held w1 G (d.cs (.slice A2 d.cuts.length cp2)) by subst hw1; exact Held.new hG)
 have B1 := Lib.hid (show Below w.heap.size w w1 by subst hw1; exact Below.more' _ _)
 have hG1 := F1.out.lt
 clear hw1 hG
 go_loopw [5, 10] (fun m i wr => ∃ (k q : Nat), k ≤ l.length ∧ m = .int .i64 q ∧ i = .int .i64 k ∧ Hid (q ≤ k * 6000000) ∧ Hid (cntL q (l.drop k) = cntL 0 l) ∧ Hid (Below w1.heap.size w1 wr)) (fun _ i _ => l.length - (intOf i).toNat)
 case atStart => exact ⟨0, 0, Nat.zero_le _, rfl, rfl, Lib.hid (by omega), Lib.hid rfl, Lib.hid (Below.refl _ _)⟩
 case round =>
  obtain ⟨k, q, hk, rfl, rfl, HQ, HF, BR⟩ := hrel
  have BW := Lib.hid (show Below w.heap.size w wr from B1.out.trans (BR.out.mono B1.out.size))
  by_cases hlt : k < l.length
  ·have hlt2 : (k : Int) < (l.length : Int) := by omega
   obtain ⟨x, hx⟩ : ∃ x, l[k]? = some x := ⟨_, List.getElem?_eq_getElem hlt⟩
   have HD := Lib.hid (cntL_drop (n := q) hx)
   have hox := HO.out.docs x (List.mem_of_getElem? hx)
   obtain ⟨b, o, r, e, s, rfl, ⟨q0, q1, q2, q3, q4, q5, q6, q7, q8⟩, hd⟩ := RdsAt.get (HC.out.ext RdC.stays BW.out) hx
   obtain ⟨rA, rc, rfl⟩ := hd.regs.form
   obtain ⟨eA, ec, rfl⟩ := hd.evs.form
   obtain ⟨sA, sc, rfl⟩ := hd.cms.form
   have hbr : b < wr.heap.size := World.block_lt_of_cell? wr _ q0
   have n1 := hox.evl
   have n2 := hox.regl
   have n3 := hox.cml
   have n4 : q ≤ 12000000000000 := by have := HQ.out; omega
   have HQ2 := Lib.hid (show q + (x.doc.evs.length + x.doc.regs.length + x.doc.cms.length) ≤ (k + 1) * 6000000 by have := HQ.out; omega)
   generalize x.doc.evs.length = e1 at *
   generalize x.doc.regs.length = e2 at *
   generalize x.doc.cms.length = e3 at *
   clear hx hd hox HQ
   go_wp2_with fail
   go_roundw
   case rel => exact ⟨k + 1, q + (e1 + e2 + e3), by omega, by first | rfl | (congr 1; omega) | go_num, by go_num, HQ2, Lib.hid (by rw [← HF.out, HD.out]), Lib.hid (BR.out.alloc BR.out.size _)⟩
   case measure => simp [intOf]; omega
  ·obtain rfl : k = l.length := by omega
   have H3 := Lib.hid (show cntL 0 l = q by rw [← HF.out, List.drop_length]; rfl)
   have F2 := F1.out.below BR.out hG1
   have fq := F2.cell
   unfold Lst.cs at fq
   clear hlt HF F2
   by_cases c1 : l.length ≤ 6
   ·have d1 : (l.length : Int) ≤ 6 := by omega
    by_cases c2 : d.cuts.length ≤ 8
    ·have d2 : (d.cuts.length : Int) ≤ 8 := by omega
     have H4 := Lib.hid (show smallB l d.cuts = decide ((q : Int) ≤ 40) by
      unfold smallB
      rw [H3.out, show decide (l.length ≤ 6) = true by simpa using c1, show decide (d.cuts.length ≤ 8) = true by simpa using c2]
      simp
      omega)
     clear c1 c2 hl
     go_wp2_with fail
     go_ret
     exact ⟨by rw [H4.out]; rfl, BW.out⟩
    ·have d2 : ¬ (d.cuts.length : Int) ≤ 8 := by omega
     have H4 := Lib.hid (show smallB l d.cuts = false by
      unfold smallB
      rw [show decide (d.cuts.length ≤ 8) = false by simpa using c2]
      simp)
     clear c1 c2 hl
     go_wp2_with fail
     go_ret
     exact ⟨by rw [H4.out]; rfl, BW.out⟩
   ·have d1 : ¬ (l.length : Int) ≤ 6 := by omega
    have H4 := Lib.hid (show smallB l d.cuts = false by
     unfold smallB
     rw [show decide (l.length ≤ 6) = false by simpa using c1]
     simp)
    clear c1 hl
    go_wp2_with fail
    go_ret
    exact ⟨by rw [H4.out]; rfl, BW.out⟩
def dc0 : Dc := ⟨[], [], 0, false, 0, [], [], []⟩
def docL (nm : List UInt8) : List Rd → Dc × Bool
 | [] => (dc0, false)
 | x :: t => if x.reel = nm then (x.doc, true) else docL nm t
theorem docL_drop {nm : List UInt8} {l : List Rd} {k : Nat} {x : Rd} (hk : l[k]? = some x) : docL nm (l.drop k) = if x.reel = nm then (x.doc, true) else docL nm (l.drop (k + 1)) := by
 rw [List.drop_eq_getElem_cons (List.getElem?_eq_some_iff.1 hk).1, (List.getElem?_eq_some_iff.1 hk).2]
 rfl
theorem dc0_at (w : World) : DocAt w dc0 (.slice none 0 0) (.slice none 0 0) (.slice none 0 0) := ⟨SeqAt.nil _ _ _, SeqAt.nil _ _ _, SeqAt.nil _ _ _⟩
theorem RdsAt.get2 {w w' : World} {A : Option Addr} {n c : Nat} {xs : List Rd} (h : RdsAt w (.slice A n c) xs) (hb : Below w.heap.size w w') {k : Nat} {x : Rd} (hx : xs[k]? = some x) :
  ∃ b o r e q, A = some ⟨b, o, none⟩ ∧ (w'.cell? ⟨b, o + k * 9, none⟩ = some (.string (sB x.reel)) ∧ w'.cell? ⟨b, o + k * 9 + 1, none⟩ = some (.string (sB x.doc.title)) ∧ w'.cell? ⟨b, o + k * 9 + 2, none⟩ = some (.string (sB x.doc.lang)) ∧ w'.cell? ⟨b, o + k * 9 + 3, none⟩ = some (.int .u8 x.doc.rate) ∧ w'.cell? ⟨b, o + k * 9 + 4, none⟩ = some (.bool x.doc.drop) ∧ w'.cell? ⟨b, o + k * 9 + 5, none⟩ = some (.int .i64 x.doc.last) ∧ w'.cell? ⟨b, o + k * 9 + 6, none⟩ = some r ∧ w'.cell? ⟨b, o + k * 9 + 7, none⟩ = some e ∧ w'.cell? ⟨b, o + k * 9 + 8, none⟩ = some q) ∧ DocAt w x.doc r e q := by
 obtain ⟨b, o, r, e, q, hA, ⟨q0, q1, q2, q3, q4, q5, q6, q7, q8⟩, hd⟩ := RdsAt.get h hx
 have f : ∀ {p u}, w.cell? p = some u → w'.cell? p = some u := fun {p u} h => (hb.cell (World.block_lt_of_cell? w _ h)).trans h
 exact ⟨b, o, r, e, q, hA, ⟨f q0, f q1, f q2, f q3, f q4, f q5, f q6, f q7, f q8⟩, hd⟩
set_option maxHeartbeats 4000000 in
theorem docof_any (v : Value) (l : List Rd) (nm : List UInt8) (w : World) (h : RdsAt w v l) (hl : l.length ≤ 2000000) :
  Calls Tryz.prog 10 #[v, .string (sB nm)] w fun e w' => (∃ r q c, e = .returned (.tuple #[(docL nm l).1.v r q c, .bool (docL nm l).2]) ∧ DocAt w' (docL nm l).1 r q c) ∧ Below w.heap.size w w' := by
 obtain ⟨A, cp, rfl⟩ := h.form
 have H := Lib.hid h
 clear h
 obtain ⟨G, hG⟩ : ∃ G, G = w.heap.size := ⟨_, rfl⟩
 have HG := Lib.hid hG
 go_enter Tryz.func10, Tryz.ntmps10
 go_wp2_with fail
 rw [← hG]
 generalize hw1 : World.alloc _ _ = w1
 have H1 := Lib.hid (show Held w1 G (dc0.cs (.slice none 0 0) (.slice none 0 0) (.slice none 0 0)) by subst hw1; exact Held.new hG)
 have B1 := Lib.hid (show Below G w w1 by subst hw1; rw [hG]; exact Below.more' _ _)
 have hGw : G < w1.heap.size := H1.out.lt
 clear hw1 hG
 go_loopw [10] (fun i wr => ∃ k : Nat, k ≤ l.length ∧ i = .int .i64 k ∧ Hid (docL nm (l.drop k) = docL nm l) ∧ Hid (Below w1.heap.size w1 wr)) (fun i _ => l.length - (intOf i).toNat)
 case atStart => exact ⟨0, Nat.zero_le _, rfl, Lib.hid rfl, Lib.hid (Below.refl _ _)⟩
 case round =>
  obtain ⟨k, hk, rfl, HF, BR⟩ := hrel
  have HR := Lib.hid (H1.out.below BR.out hGw)
  have BW := Lib.hid (show Below w.heap.size w wr from HG.out ▸ B1.out.trans (BR.out.mono (Nat.le_of_lt hGw)))
  by_cases hlt : k < l.length
  ·have hlt2 : (k : Int) < (l.length : Int) := by omega
   obtain ⟨x, hx⟩ : ∃ x, l[k]? = some x := ⟨_, List.getElem?_eq_getElem hlt⟩
   have HD := Lib.hid (docL_drop (nm := nm) hx)
   obtain ⟨b, o, r, e, s, rfl, ⟨q0, q1, q2, q3, q4, q5, q6, q7, q8⟩, hd⟩ := RdsAt.get2 H.out BW.out hx
   obtain ⟨rA, rc, rfl⟩ := hd.regs.form
   obtain ⟨eA, ec, rfl⟩ := hd.evs.form
   obtain ⟨sA, sc, rfl⟩ := hd.cms.form
   have HDD := Lib.hid hd
   have hbr : b < wr.heap.size := World.block_lt_of_cell? wr _ q0
   have hGr : G < wr.heap.size := HR.out.lt
   clear hx hd
   obtain ⟨reel, title, lang, rate, drop, last, regs, evs, cms⟩ := x
   by_cases hn : reel = nm
   ·subst hn
    have t1 : ((sB reel).toList == (sB reel).toList) = true := by simp
    have HF2 := Lib.hid (show ((⟨title, lang, rate, drop, last, regs, evs, cms⟩ : Dc), true) = docL reel l by rw [← HF.out, HD.out, if_pos rfl])
    clear HF HD
    have q := HR.out.cell
    have y := HR.out.free
    unfold dc0 Dc.cs at q
    dsimp only at q0 q1 q2 q3 q4 q5 q6 q7 q8
    go_wp2_with (with_reducible refine stop_at ?_)
    unfold StopAt
    clear q y q0 q1 q2 q3 q4 q5 q6 q7 q8
    generalize hw3 : World.alloc _ _ = w3
    have H3 := Lib.hid (show Held w3 G (Dc.cs ⟨title, lang, rate, drop, last, regs, evs, cms⟩ (.slice rA regs.length rc) (.slice eA evs.length ec) (.slice sA cms.length sc)) by subst hw3; exact (HR.out.all (Dc.cs ⟨title, lang, rate, drop, last, regs, evs, cms⟩ (.slice rA regs.length rc) (.slice eA evs.length ec) (.slice sA cms.length sc)) rfl).alloc _)
    have B3 := Lib.hid (show Below w.heap.size w w3 by
     subst hw3
     refine Below.alloc ?_ (by simp; have := BW.out.size; omega) _
     exact Below.all (by rw [HG.out]; exact Nat.le_refl _) (Dc.cs ⟨title, lang, rate, drop, last, regs, evs, cms⟩ (.slice rA regs.length rc) (.slice eA evs.length ec) (.slice sA cms.length sc)) 0 BW.out)
    have HD3 := Lib.hid (HDD.out.ext B3.out)
    have fr := H3.out.cell
    unfold Dc.cs at fr
    refine bodyPost_ret (by simp [results, Tryz.results10, fr, go_sem]; try rfl) rfl ?_
    rw [← HF2.out]
    exact ⟨⟨_, _, _, rfl, HD3.out⟩, B3.out⟩
   ·have t1 : ((sB reel).toList == (sB nm).toList) = false := by rw [str_eq]; simpa using hn
    have HF2 := Lib.hid (show docL nm (l.drop (k + 1)) = docL nm l by rw [← HF.out, HD.out, if_neg hn])
    clear HF HD hn
    go_wp2_with fail
    go_roundw
    case rel => exact ⟨k + 1, by omega, by go_num, HF2, Lib.hid (BR.out.alloc BR.out.size _)⟩
    case measure => simp [intOf]; omega
  ·obtain rfl : k = l.length := by omega
   have HF2 := Lib.hid (show (dc0, false) = docL nm l by rw [← HF.out, List.drop_length]; rfl)
   clear hlt HF
   have q := HR.out.cell
   have y := HR.out.free
   unfold dc0 Dc.cs at q
   go_wp2_with (with_reducible refine stop_at ?_)
   unfold StopAt
   clear q y
   generalize hw3 : World.setCell _ _ _ = w3
   have H3 := Lib.hid (show Held w3 G (dc0.cs (.slice none 0 0) (.slice none 0 0) (.slice none 0 0)) by subst hw3; exact HR.out.all (dc0.cs (.slice none 0 0) (.slice none 0 0) (.slice none 0 0)) rfl)
   have B3 := Lib.hid (show Below w.heap.size w w3 by subst hw3; exact Below.all (Nat.le_of_eq HG.out.symm) (dc0.cs (.slice none 0 0) (.slice none 0 0) (.slice none 0 0)) 0 BW.out)
   have fr := H3.out.cell
   unfold dc0 Dc.cs at fr
   refine bodyPost_ret (by simp [results, Tryz.results10, fr, go_sem]; try rfl) rfl ?_
   rw [← HF2.out]
   exact ⟨⟨_, _, _, rfl, dc0_at _⟩, B3.out⟩
/-- The index of the event with an ID, -1 if there is none. -/
def fndI (id : Int) : Nat → List Ev → Int
 | _, [] => -1
 | k, x :: t => if x.id = id then (k : Int) else fndI id (k + 1) t
theorem fndI_drop {id : Int} {l : List Ev} {k : Nat} {x : Ev} (hk : l[k]? = some x) : fndI id k (l.drop k) = if x.id = id then (k : Int) else fndI id (k + 1) (l.drop (k + 1)) := by
 rw [List.drop_eq_getElem_cons (List.getElem?_eq_some_iff.1 hk).1, (List.getElem?_eq_some_iff.1 hk).2]
 rfl
theorem fnl_any (g : Nat) (x : Ev) (r : Value) (id : Int) (w : World) (hg : w.cell? ⟨g, 0, none⟩ = some (.int .i64 id)) {b : Bool} (hb : b = decide (x.id = id)) :
  Calls Tryz.prog 35 #[x.v r, .pointer (some ⟨g, 0, none⟩)] w fun e w' => e = .returned (.bool b) ∧ Below w.heap.size w w' := by
 have hgl := World.block_lt_of_cell? w _ hg
 have hne : g ≠ w.heap.size := Nat.ne_of_lt hgl
 have t1 : (x.id == id) = b := by rw [hb]; rfl
 unfold Ev.v
 clear hb
 go_enter Tryz.func35, Tryz.ntmps35
 go_wp2_with fail
 go_ret
 exact ⟨by first | rfl | rw [t1], Below.more' _ _⟩
set_option maxHeartbeats 1000000 in
theorem fni_any (g : Nat) (A : Option Addr) (c : Nat) (L : List Ev) (id : Int) (w : World) (h : EvsAt w (.slice A L.length c) L) (hg : w.cell? ⟨g, 0, none⟩ = some (.int .i64 id)) (hl : L.length ≤ 2000000) :
  Calls Tryz.prog 34 #[.slice A L.length c, .func (.func 35) #[] #[.pointer (some ⟨g, 0, none⟩)]] w fun e w' => e = .returned (.int .i64 (fndI id 0 L)) ∧ Below w.heap.size w w' := by
 have H := Lib.hid h
 have HG := Lib.hid hg
 have hgl := World.block_lt_of_cell? w _ hg
 clear h hg
 go_enter Tryz.func34, Tryz.ntmps34
 go_wp2_with fail
 go_loopw [8] (fun i wr => ∃ k : Nat, k ≤ L.length ∧ i = .int .i64 k ∧ Hid (fndI id k (L.drop k) = fndI id 0 L) ∧ Hid (Below w.heap.size w wr)) (fun i _ => L.length - (intOf i).toNat)
 case atStart => exact ⟨0, by omega, rfl, Lib.hid rfl, Lib.hid (Below.refl _ _)⟩
 case round =>
  obtain ⟨k, hk, rfl, HK, G⟩ := hrel
  have hDw : w.heap.size ≤ wr.heap.size := G.out.size
  by_cases hlt : k < L.length
  ·have hlt2 : (k : Int) < (L.length : Int) := by omega
   obtain ⟨x, hx⟩ : ∃ x, L[k]? = some x := ⟨_, List.getElem?_eq_getElem hlt⟩
   have HD := Lib.hid (fndI_drop (id := id) hx)
   have HRw := H.out.ext EvC.stays G.out
   obtain ⟨b, o, r, rfl, ⟨q0, q1, q2, q3, q4, q5, q6⟩, hrr⟩ := EvsAt.get HRw hx
   obtain ⟨rA, rc, rfl⟩ := hrr.form
   have hcg := Lib.hid ((G.out.cell (p := ⟨g, 0, none⟩) hgl).trans HG.out)
   clear HRw hx hrr
   by_cases hf : x.id = id
   ·have HF := Lib.hid (fnl_any g x (.slice rA x.rows.length rc) id wr hcg.out (b := true) (decide_eq_true hf).symm)
    have HF2 := Lib.hid (show fndI id 0 L = (k : Int) by rw [← HK.out, HD.out, if_pos hf])
    clear hf
    unfold Ev.v at HF
    go_wp2_with fail
    refine HF.out.mono ?_
    rintro e w2 ⟨rfl, hb⟩
    have G2 := Lib.hid (G.out.trans (hb.mono hDw))
    clear hb q0 q1 q2 q3 q4 q5 q6
    go_wp2_with fail
    go_ret
    exact ⟨by rw [HF2.out]; rfl, G2.out⟩
   ·have HF := Lib.hid (fnl_any g x (.slice rA x.rows.length rc) id wr hcg.out (b := false) (decide_eq_false hf).symm)
    have HF2 := Lib.hid (show fndI id (k + 1) (L.drop (k + 1)) = fndI id 0 L by rw [← HK.out, HD.out, if_neg hf])
    clear hf
    unfold Ev.v at HF
    go_wp2_with fail
    refine HF.out.mono ?_
    rintro e w2 ⟨rfl, hb⟩
    have G2 := Lib.hid (G.out.trans (hb.mono hDw))
    clear hb q0 q1 q2 q3 q4 q5 q6
    go_wp2_with fail
    go_roundw
    case rel => exact ⟨k + 1, by omega, by go_num, HF2, G2⟩
    case measure => simp [intOf]; omega
  ·obtain rfl : k = L.length := by omega
   have HF2 := Lib.hid (show fndI id 0 L = -1 by rw [← HK.out, List.drop_length]; rfl)
   clear hlt
   go_wp2_with fail
   go_ret
   exact ⟨by rw [HF2.out]; rfl, G.out⟩
theorem dfind_any (d : Dc) (r e c : Value) (id : Int) (w : World) (hd : EvsAt w e d.evs) (hl : d.evs.length ≤ 2000000) :
  Calls Tryz.prog 11 #[d.v r e c, .int .i64 id] w fun e' w' => e' = .returned (.int .i64 (fndI id 0 d.evs)) ∧ Below w.heap.size w w' := by
 obtain ⟨A, cp, rfl⟩ := hd.form
 have H := Lib.hid hd
 clear hd
 have hr : ∀ q, d.v r q c = .agg #[.string (sB d.title), .string (sB d.lang), .int .u8 d.rate, .bool d.drop, .int .i64 d.last, r, q, c] := fun _ => rfl
 rw [hr]
 clear hr
 obtain ⟨D, hD⟩ : ∃ D, D = w.heap.size := ⟨_, rfl⟩
 go_enter Tryz.func11, Tryz.ntmps11
 go_wp2_with fail
 rw [← hD]
 generalize hw2 : World.alloc (World.alloc w _) _ = w2
 have F2 := Lib.hid (show Held w2 D (d.cs r (.slice A d.evs.length cp) c) by subst hw2; exact (Held.new hD).alloc _)
 have K2 := Lib.hid (show Held w2 (D + 1) [.int .i64 id] by subst hw2; exact Held.new (by simp [hD]))
 have B2 := Lib.hid (show Below w.heap.size w w2 by subst hw2; exact (Below.more' _ _).alloc (by simp) _)
 clear hw2
 refine (fni_any (D + 1) A cp d.evs id w2 (H.out.ext EvC.stays B2.out) (K2.out.cell 0) hl).mono ?_
 rintro e' w3 ⟨rfl, hb⟩
 have B3 := Lib.hid (B2.out.trans (hb.mono B2.out.size))
 clear hb
 go_wp2_with fail
 go_ret
 exact ⟨rfl, B3.out⟩
end Go.Proofs.YtmopjhbfobmklaaGreatDoor
