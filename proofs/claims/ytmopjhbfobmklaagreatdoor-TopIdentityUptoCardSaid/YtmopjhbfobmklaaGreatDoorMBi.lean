/-
  Preimage, Image and Text. The conditions of the contracts are their hypotheses.
-/
import Derived.Test.YtmopjhbfobmklaaGreatDoorMBh
import Derived.Test.YtmopjhbfobmklaaGreatDoorMBg
set_option maxRecDepth 100000
set_option maxHeartbeats 40000000
namespace Go.Proofs.YtmopjhbfobmklaaGreatDoor
open Go.RowKit Go.Joins
set_option linter.unusedVariables false
set_option linter.unusedSimpArgs false
theorem pre_step {L : List Pc} {k : Nat} {x : Pc} (s : Spn) (hk : L[k]? = some x) : preL (L.take (k + 1)) s = preL (L.take k) s ++ [⟨reaP x s.i, reaP x s.o⟩] := by
 unfold preL
 rw [List.take_add_one, hk, List.map_append]
 rfl
theorem preL_len (L : List Pc) (s : Spn) : (preL L s).length = L.length := List.length_map ..
theorem one_bd {s : Spn} (h : chkS [s] = 0) : 0 ≤ s.i ∧ s.i ≤ 10378368000 ∧ 0 ≤ s.o ∧ s.o ≤ 10378368000 := by
 obtain ⟨_, hc, hb⟩ := chkS_ok.1 h
 have h1 := can_pos hc s (List.mem_singleton.2 rfl)
 have h2 := hb s (List.mem_singleton.2 rfl)
 have h3 : s.o ≤ 10378368000 := h2.2
 omega
theorem kept_of {l : List Oper} {n s : Nat} (h : (List.range n).all (fun j => dstOf l j != some s) = true) : ∀ j, j < n → dstOf l j ≠ some s := fun j hj e => by
 have := List.all_eq_true.1 h j (List.mem_range.2 hj)
 rw [e] at this
 simp at this
theorem κo {l : List Oper} {n : Nat} {f g : Nat → Value} (hk : ∀ s, (∀ j, j < n → dstOf l j ≠ some s) → f s = g s) (s : Nat) (h : (List.range n).all (fun j => dstOf l j != some s) = true) : f s = g s := hk s (kept_of h)
def PhiPreY (uv : Value) (x : Pc) (s : Spn) (X D : Nat) (ra rb : Int) : Nat → Value → Prop
 | 22, v => v = uv
 | 23, v => v = pcA x
 | 24, v => v = .pointer (some ⟨D, 0, none⟩)
 | 25, v => v = .int .i64 s.i
 | 26, v => v = .int .i64 ra
 | 27, v => v = pcA x
 | 28, v => v = .pointer (some ⟨D, 1, none⟩)
 | 29, v => v = .int .i64 s.o
 | 30, v => v = .int .i64 rb
 | 31, v => v = spA ⟨ra, rb⟩
 | _, _ => True
def PhiPre (uv : Value) (x : Pc) (s : Spn) (X D : Nat) (ra rb : Int) (E : Nat) (sl : Nat) (v : Value) (w : World) : Prop := PhiPreY uv x s X D ra rb sl v ∧ (sl = 32 → ∃ h, v = .slice (some ⟨h, 0, none⟩) 1 1 ∧ E ≤ h ∧ Held w h [.int .i64 ra, .int .i64 rb])
theorem PhiPre.ext {uv : Value} {x : Pc} {s : Spn} {X D : Nat} {ra rb : Int} {E : Nat} {w w' : World} (hb : Below w.heap.size w w') : ∀ sl v, PhiPre uv x s X D ra rb E sl v w → PhiPre uv x s X D ra rb E sl v w' := fun sl v h => ⟨h.1, fun e => let ⟨h1, h2, h3, h4⟩ := h.2 e; ⟨h1, h2, h3, h4.ext hb⟩⟩
def PhiPrerY (uv : Value) (x : Pc) (s : Spn) (X D : Nat) (ra rb : Int) : Nat → Value → Prop
 | 28, v => v = uv
 | 29, v => v = pcA x
 | 30, v => v = .pointer (some ⟨D, 0, none⟩)
 | 31, v => v = .int .i64 s.i
 | 32, v => v = .int .i64 ra
 | 33, v => v = pcA x
 | 34, v => v = .pointer (some ⟨D, 1, none⟩)
 | 35, v => v = .int .i64 s.o
 | 36, v => v = .int .i64 rb
 | 37, v => v = spA ⟨ra, rb⟩
 | _, _ => True
def PhiPrer (uv : Value) (x : Pc) (s : Spn) (X D : Nat) (ra rb : Int) (E : Nat) (sl : Nat) (v : Value) (w : World) : Prop := PhiPrerY uv x s X D ra rb sl v ∧ (sl = 38 → ∃ h, v = .slice (some ⟨h, 0, none⟩) 1 1 ∧ E ≤ h ∧ Held w h [.int .i64 ra, .int .i64 rb])
theorem PhiPrer.ext {uv : Value} {x : Pc} {s : Spn} {X D : Nat} {ra rb : Int} {E : Nat} {w w' : World} (hb : Below w.heap.size w w') : ∀ sl v, PhiPrer uv x s X D ra rb E sl v w → PhiPrer uv x s X D ra rb E sl v w' := fun sl v h => ⟨h.1, fun e => let ⟨h1, h2, h3, h4⟩ := h.2 e; ⟨h1, h2, h3, h4.ext hb⟩⟩
theorem pre_any (A : Option Addr) (c : Nat) (L : List Pc) (s : Spn) (w : World) (hs : PcAt w A L) (hf : Frp L) (hl : L.length ≤ 1000000000) :
  Calls Tryz.prog 62 #[.slice A L.length c, spA s] w (RetP (preP L s) w) := by
 have HS := ι hs
 have HC := ι (fun (W : World) (h : PcAt W A L) => cspan_any A c L s W h hf hl)
 clear hs hf
 unfold RetP
 obtain ⟨D, hD⟩ : ∃ D, D = w.heap.size := ⟨_, rfl⟩
 have HD := ι hD
 rw [← hD]
 clear hD
 by_cases h0 : chkP L = 0
 ·by_cases h1 : chkS [s] = 0
  ·have HN := ι (pre_nor h0 h1)
   have HIN := ι (pre_in h0 s).1
   have HG := ι (chkP_ok.1 h0).2.1
   rw [show preP L s = (joinS (preL L s), 0) by unfold preP; rw [if_pos h0, if_pos h1]] at HN ⊢
   rw [if_pos h0, h1] at HC
   have HSB := ι (one_bd h1)
   obtain ⟨i0, hi, hz0, hz1, hz2⟩ := info_parts infoS
   have HI0 := ι (And.intro hi (And.intro hz0 (And.intro hz1 hz2)))
   have hl6 := (chkP_ok.1 h0).1
   clear hi hz0 hz1 hz2 h0 h1
   go_enter Tryz.func62, Tryz.ntmps62
   go_wp2_with fail
   rw [← HD.out]
   generalize hw1 : World.alloc w _ = w1
   have F1 := ι (show Held w1 D [.int .i64 s.i, .int .i64 s.o] by subst hw1; exact Held.new HD.out)
   have GB := ι (show Below D w w1 by subst hw1; rw [HD.out]; exact below_one _ _)
   have H1 := ι (show PcAt w1 A L from HS.out.ext (HD.out ▸ GB.out))
   obtain ⟨N, hN⟩ : ∃ N, N = w1.heap.size := ⟨_, rfl⟩
   have HNN := ι hN
   have hDN : D < N := by rw [hN]; exact F1.out.lt
   clear hw1 hN
   refine (HC.out w1 H1.out).mono ?_
   rintro e w2 ⟨rfl, hb⟩
   have G2 := ι (show Below N w1 w2 from HNN.out ▸ hb)
   clear hb HC
   go_wp2_with fail
   go_loopw [7, 18] (fun ov i wr => ∃ (k : Nat) (uv : Value), uv = ov ∧ k ≤ L.length ∧ i = .int .i64 k ∧ Hid (wr.ownsRow N 29 2 uv (preL (L.take k) s).length ((preL (L.take k) s).flatMap spV)) ∧ Hid (Below N w1 wr)) (fun _ i _ => L.length - (intOf i).toNat)
   case atStart => exact ⟨0, _, rfl, by omega, rfl, ι (World.ownsRow_nil _ _ _ _), G2⟩
   case round =>
   obtain ⟨k, uv, rfl, hk, rfl, HO, G⟩ := hrel
   have hNw : N ≤ wr.heap.size := by have := G.out.size; have := HNN.out; omega
   by_cases hlt : k < L.length
   ·have hlt2 : (k : Int) < (L.length : Int) := by omega
    obtain ⟨x, hx⟩ : ∃ x, L[k]? = some x := ⟨_, List.getElem?_eq_getElem hlt⟩
    have HRw := H1.out.ext (HNN.out ▸ G.out)
    obtain ⟨g, o, rfl⟩ := PcAt.some HRw hx
    obtain ⟨q0, q1, q2, q3, q4⟩ := PcAt.get HRw hx
    have HST := ι (pre_step s hx)
    have HGX := ι (HG.out x (List.mem_of_getElem? hx))
    have hm : (preL (L.take k) s).length ≤ 64 := by rw [preL_len, List.length_take]; omega
    generalize preL (L.take k) s = M at *
    clear HRw hx
    go_wp2_with fail
    generalize hw5 : World.alloc wr _ = w5
    have F5 : Held w5 wr.heap.size (pcV x) := by subst hw5; exact Held.new rfl
    obtain ⟨z0, z1, z2, z3, z4⟩ := five_of F5
    have G5 := ι (show Below N w1 w5 by subst hw5; exact G.out.alloc hNw _)
    obtain ⟨s0, s1⟩ := two_of (F1.out.below G5.out hDN)
    have HO5 := ι (show w5.ownsRow N 29 2 uv M.length (M.flatMap spV) by subst hw5; exact HO.out.alloc _)
    have hX5 := F5.lt
    generalize wr.heap.size = X at *
    clear hw5 q0 q1 q2 q3 q4 HO G F5
    obtain ⟨E, hE⟩ : ∃ E, E = w5.heap.size := ⟨_, rfl⟩
    have hNE : N ≤ E := by rw [hE]; have := G5.out.size; have := HNN.out; omega
    have hXE : X < E := by omega
    have hDE : D < E := by omega
    have HOX := ι (fun W (hW : Below E w5 W) => show W.ownsRow N 29 2 uv M.length (M.flatMap spV) from ownsRow_below (B := E) HO5.out hW (Nat.le_of_eq hE.symm))
    have HSZ := ι (fun W (hW : Below E w5 W) => show E ≤ W.heap.size by have := hW.size; omega)
    obtain ⟨x0, x1, x2, x3⟩ := HSB.out
    obtain ⟨ra, hra⟩ : ∃ a, a = reaP x s.i := ⟨_, rfl⟩
    obtain ⟨rb, hrb⟩ : ∃ a, a = reaP x s.o := ⟨_, rfl⟩
    have HFA := ι (fun W => rea_any x s.i W HGX.out x0 x1)
    have HFB := ι (fun W => rea_any x s.o W HGX.out x2 x3)
    rw [← hra] at HFA HST
    rw [← hrb] at HFB HST
    clear hE hra hrb x0 x1 x2 x3
    refine wp_region_spec_tail 11 (by kernel_rfl) (fun w' => Below E w5 w') (PhiPre uv x s X D ra rb E) 39 rfl (by kernel_rfl) (by kernel_rfl) (by kernel_rfl) (by kernel_rfl) (by kernel_rfl) (Below.refl _ _).drew ?hops ?hend
    case hops =>
     refine ⟨?o0, ?o1, ?o2, ?o3, ?o4, ?o5, ?o6, ?o7, ?o8, ?o9, ?o10, trivial⟩
     case o0 =>
      intro ev w8 hI δ φ
      have a7 : ev 7 = uv := φ 7 (by kernel_rfl)
      clear δ φ
      try dsimp only
      simp [OpRuns, execOp, evalOf, a7, go_sem]
      first | exact ⟨hI, rfl, ν rfl⟩ | exact ⟨hI, rfl⟩ | exact hI
     case o1 =>
      intro ev w8 hI δ φ
      have a9 : ev 9 = Value.pointer (some { block := X, off := 0 }) := φ 9 (by kernel_rfl)
      clear δ φ
      have y0 : w8.cell? ⟨X, 0, none⟩ = some (.int .i64 x.i) := (hI.cell (p := ⟨X, 0, none⟩) hXE).trans z0
      have y1 : w8.cell? ⟨X, 1, none⟩ = some (.int .i64 x.o) := (hI.cell (p := ⟨X, 1, none⟩) hXE).trans z1
      have y2 : w8.cell? ⟨X, 2, none⟩ = some (.int .i64 x.t) := (hI.cell (p := ⟨X, 2, none⟩) hXE).trans z2
      have y3 : w8.cell? ⟨X, 3, none⟩ = some (.int .i64 x.n) := (hI.cell (p := ⟨X, 3, none⟩) hXE).trans z3
      have y4 : w8.cell? ⟨X, 4, none⟩ = some (.int .i64 x.d) := (hI.cell (p := ⟨X, 4, none⟩) hXE).trans z4
      try dsimp only
      simp [OpRuns, execOp, evalOf, a9, y0, y1, y2, y3, y4, go_sem]
      first | exact ⟨hI, rfl, ν rfl⟩ | exact ⟨hI, rfl⟩ | exact hI
     case o2 =>
      intro ev w8 hI δ φ
      have a3 : ev 3 = Value.pointer (some { block := D, off := 0 }) := φ 3 (by kernel_rfl)
      clear δ φ
      try dsimp only
      simp [OpRuns, execOp, evalOf, a3, go_sem]
      first | exact ⟨hI, rfl, ν rfl⟩ | exact ⟨hI, rfl⟩ | exact hI
     case o3 =>
      intro ev w8 hI δ φ
      have a24 : ev 24 = .pointer (some ⟨D, 0, none⟩) := (δ 2 24 (by kernel_rfl) rfl).1
      clear δ φ
      have y0 : w8.cell? ⟨D, 0, none⟩ = some (.int .i64 s.i) := (hI.cell (p := ⟨D, 0, none⟩) hDE).trans s0
      try dsimp only
      simp [OpRuns, execOp, evalOf, a24, y0, go_sem]
      first | exact ⟨hI, rfl, ν rfl⟩ | exact ⟨hI, rfl⟩ | exact hI
     case o4 =>
      intro ev w8 hI δ φ
      have a23 : ev 23 = pcA x := (δ 1 23 (by kernel_rfl) rfl).1
      have a25 : ev 25 = .int .i64 s.i := (δ 3 25 (by kernel_rfl) rfl).1
      clear δ φ
      try dsimp only
      refine runs_call (f := 97) (args := #[pcA x, .int .i64 s.i]) (by simp [execOp, evalOf, resolve, invoke, a23, a25, go_sem]) ((HFA.out w8).mono ?_)
      rintro e w9 ⟨he, hb⟩
      exact ⟨_, he, hI.trans (hb.mono (HSZ.out w8 hI)), PhiPre.ext hb, fun d hd => by cases hd; exact ⟨rfl, ν rfl⟩⟩
     case o5 =>
      intro ev w8 hI δ φ
      have a9 : ev 9 = Value.pointer (some { block := X, off := 0 }) := φ 9 (by kernel_rfl)
      clear δ φ
      have y0 : w8.cell? ⟨X, 0, none⟩ = some (.int .i64 x.i) := (hI.cell (p := ⟨X, 0, none⟩) hXE).trans z0
      have y1 : w8.cell? ⟨X, 1, none⟩ = some (.int .i64 x.o) := (hI.cell (p := ⟨X, 1, none⟩) hXE).trans z1
      have y2 : w8.cell? ⟨X, 2, none⟩ = some (.int .i64 x.t) := (hI.cell (p := ⟨X, 2, none⟩) hXE).trans z2
      have y3 : w8.cell? ⟨X, 3, none⟩ = some (.int .i64 x.n) := (hI.cell (p := ⟨X, 3, none⟩) hXE).trans z3
      have y4 : w8.cell? ⟨X, 4, none⟩ = some (.int .i64 x.d) := (hI.cell (p := ⟨X, 4, none⟩) hXE).trans z4
      try dsimp only
      simp [OpRuns, execOp, evalOf, a9, y0, y1, y2, y3, y4, go_sem]
      first | exact ⟨hI, rfl, ν rfl⟩ | exact ⟨hI, rfl⟩ | exact hI
     case o6 =>
      intro ev w8 hI δ φ
      have a3 : ev 3 = Value.pointer (some { block := D, off := 0 }) := φ 3 (by kernel_rfl)
      clear δ φ
      try dsimp only
      simp [OpRuns, execOp, evalOf, a3, go_sem]
      first | exact ⟨hI, rfl, ν rfl⟩ | exact ⟨hI, rfl⟩ | exact hI
     case o7 =>
      intro ev w8 hI δ φ
      have a28 : ev 28 = .pointer (some ⟨D, 1, none⟩) := (δ 6 28 (by kernel_rfl) rfl).1
      clear δ φ
      have y0 : w8.cell? ⟨D, 1, none⟩ = some (.int .i64 s.o) := (hI.cell (p := ⟨D, 1, none⟩) hDE).trans s1
      try dsimp only
      simp [OpRuns, execOp, evalOf, a28, y0, go_sem]
      first | exact ⟨hI, rfl, ν rfl⟩ | exact ⟨hI, rfl⟩ | exact hI
     case o8 =>
      intro ev w8 hI δ φ
      have a27 : ev 27 = pcA x := (δ 5 27 (by kernel_rfl) rfl).1
      have a29 : ev 29 = .int .i64 s.o := (δ 7 29 (by kernel_rfl) rfl).1
      clear δ φ
      try dsimp only
      refine runs_call (f := 97) (args := #[pcA x, .int .i64 s.o]) (by simp [execOp, evalOf, resolve, invoke, a27, a29, go_sem]) ((HFB.out w8).mono ?_)
      rintro e w9 ⟨he, hb⟩
      exact ⟨_, he, hI.trans (hb.mono (HSZ.out w8 hI)), PhiPre.ext hb, fun d hd => by cases hd; exact ⟨rfl, ν rfl⟩⟩
     case o9 =>
      intro ev w8 hI δ φ
      have a26 : ev 26 = .int .i64 ra := (δ 4 26 (by kernel_rfl) rfl).1
      have a30 : ev 30 = .int .i64 rb := (δ 8 30 (by kernel_rfl) rfl).1
      clear δ φ
      try dsimp only
      simp [OpRuns, execOp, evalOf, a26, a30, go_sem]
      first | exact ⟨hI, rfl, ν rfl⟩ | exact ⟨hI, rfl⟩ | exact hI
     case o10 =>
     intro ev w8 hI δ φ
     have a31 : ev 31 = spA ⟨ra, rb⟩ := (δ 9 31 (by kernel_rfl) rfl).1
     clear δ φ
     try dsimp only
     simp [OpRuns, execOp, evalOf, a31, go_sem]
     exact ⟨hI.alloc (HSZ.out w8 hI) _, PhiPre.ext (below_one _ _), trivial, fun _ => ⟨_, rfl, HSZ.out w8 hI, Held.new rfl⟩⟩
    case hend =>
    intro a w6 hdf hsz hI hPhi κ
    replace hdf : a.defers = [] := hdf
    replace hsz : a.tmps.size = 39 := hsz
    have x22 : a.tmps.getD 22 undef = uv := (hPhi 0 22 (by omega) (by kernel_rfl)).1
    obtain ⟨h32, x32, hE32, HH32⟩ := (hPhi 10 32 (by omega) (by kernel_rfl)).2 rfl
    have x0 := κO κ 0 (Value.slice (some { block := g, off := o }) L.length c) rfl rfl
    have x1 := κO κ 1 (spA s) rfl rfl
    have x2 := κO κ 2 (undef) rfl rfl
    have x3 := κO κ 3 (Value.pointer (some { block := D, off := 0 })) rfl rfl
    have x4 := κO κ 4 (Value.slice none 0 0) rfl rfl
    have x5 := κO κ 5 (Value.int IntKind.i64 0) rfl rfl
    have x6 := κO κ 6 (Value.int IntKind.i64 0) rfl rfl
    have x7 := κO κ 7 (uv) rfl rfl
    have x8 := κO κ 8 (undef) rfl rfl
    have x9 := κO κ 9 (Value.pointer (some { block := X, off := 0 })) rfl rfl
    have x10 := κO κ 10 (Value.slice (some { block := g, off := o }) L.length c) rfl rfl
    have x11 := κO κ 11 (Value.agg #[Value.int IntKind.i64 s.i, Value.int IntKind.i64 s.o]) rfl rfl
    have x12 := κO κ 12 (Value.int IntKind.i64 0) rfl rfl
    have x13 := κO κ 13 (Value.int IntKind.i64 0) rfl rfl
    have x14 := κO κ 14 (Value.bool false) rfl rfl
    have x15 := κO κ 15 (undef) rfl rfl
    have x16 := κO κ 16 (Value.slice (some { block := g, off := o }) L.length c) rfl rfl
    have x17 := κO κ 17 (Value.int IntKind.i64 (↑L.length : Int)) rfl rfl
    have x18 := κO κ 18 (Value.int IntKind.i64 (↑k : Int)) rfl rfl
    have x19 := κO κ 19 (Value.bool true) rfl rfl
    have x20 := κO κ 20 (Value.pointer (some { block := g, off := o + k * 5 })) rfl rfl
    have x21 := κO κ 21 (Value.agg #[Value.int IntKind.i64 x.i, Value.int IntKind.i64 x.o, Value.int IntKind.i64 x.t, Value.int IntKind.i64 x.n, Value.int IntKind.i64 x.d]) rfl rfl
    have x35 := κO κ 35 (undef) rfl rfl
    have x36 := κO κ 36 (undef) rfl rfl
    have x37 := κO κ 37 (undef) rfl rfl
    have x38 := κO κ 38 (undef) rfl rfl
    have ea := act_lit hsz hdf
    simp only [getDs] at ea
    rw [x22, x32, x0, x1, x2, x3, x4, x5, x6, x7, x8, x9, x10, x11, x12, x13, x14, x15, x16, x17, x18, x19, x20, x21, x35, x36, x37, x38] at ea
    rw [ea]
    clear ea x22 x32 x0 x1 x2 x3 x4 x5 x6 x7 x8 x9 x10 x11 x12 x13 x14 x15 x16 x17 x18 x19 x20 x21 x35 x36 x37 x38 hPhi κ hdf hsz
    generalize a.tmps.getD 23 undef = u23, a.tmps.getD 24 undef = u24, a.tmps.getD 25 undef = u25, a.tmps.getD 26 undef = u26, a.tmps.getD 27 undef = u27, a.tmps.getD 28 undef = u28, a.tmps.getD 29 undef = u29, a.tmps.getD 30 undef = u30, a.tmps.getD 31 undef = u31, a.tmps.getD 33 undef = u33, a.tmps.getD 34 undef = u34
    clear a
    have hszE : E ≤ w6.heap.size := HSZ.out w6 hI
    have HO6 := ι (HOX.out w6 hI)
    have G6 := ι (show Below N w1 w6 from G5.out.trans (hI.mono hNE))
    have hNw6 : N ≤ w6.heap.size := by omega
    obtain ⟨n0, n1⟩ := two_of HH32
    clear hI HO5 G5 z0 z1 z2 z3 z4 s0 s1 HH32
    simp only [List.drop_succ_cons, List.drop_zero]
    go_loud (refine wpList_append_lies _ rfl _ _ 60 rfl N 29 i0 (.agg #[.int .i64 0, .int .i64 0]) 2 16 Tryz.underlying60 HI0.out.1 HI0.out.2.1 HI0.out.2.2.1 HI0.out.2.2.2 rfl (by decide) uv M.length (M.flatMap spV) rfl HO6.out ⟨h32, 0, none⟩ 1 1 (spV (Spn.mk ra rb)) rfl rfl (CellsAt.all (by simp [CellsAt, go_sem, spV, n0, n1])) (by simp [Value.oneCell', spV]) (by omega) (by simp only [maxLen]; omega) (by omega) hNw6 _ rfl ?_)
    intro g' cap' w7 ho hgr hat hlt7
    have G7 := ι (show Below N w1 w7 from G6.out.grown hgr hNw6 (fun k e => (HO6.out.lt k e).1))
    have HO7 := ι (show w7.ownsRow N 29 2 (.slice (some ⟨g', 0, none⟩) (M.length + 1) cap') (M ++ [Spn.mk ra rb]).length ((M ++ [Spn.mk ra rb]).flatMap spV) by
     rw [List.flatMap_append, List.length_append]
     simpa using ho)
    rw [← HST.out] at HO7
    clear ho hgr hat hlt7 n0 n1
    go_wp2_with fail
    go_roundw
    case rel => exact ⟨k + 1, _, rfl, by omega, by go_num, HO7, G7⟩
    case measure => simp [intOf]; omega

   obtain rfl : k = L.length := by omega
   rw [List.take_length] at HO
   obtain ⟨A4, c4, e4, hr4, _⟩ := own_form HO.out
   subst e4
   have HR4 := ι hr4
   have HIL := ι (show (preL L s).length ≤ 1000000 by have := HIN.out; omega)
   have hDw : D ≤ wr.heap.size := by omega
   have GW := ι (GB.out.trans (G.out.mono (Nat.le_of_lt hDN)))
   clear hlt hr4
   go_wp2_with fail
   refine (norm_any A4 c4 (preL L s) wr HR4.out HIL.out).mono ?_
   rw [HN.out]
   rintro e w6 ⟨⟨v, rfl, ho⟩, hb⟩
   have HO6 := ι (ownsRow_mono ho hDw)
   have G6 := ι (GW.out.trans (hb.mono hDw))
   clear ho hb
   go_wp2_with fail
   go_ret2
   exact ⟨⟨_, rfl, HO6.out⟩, G6.out⟩
  rw [show preP L s = ([], chkS [s]) by unfold preP; rw [if_pos h0, if_neg h1]]
  rw [if_pos h0] at HC
  generalize chkS [s] = E at *
  have h0b : (E == 0) = false := by simpa using h1
  go_enter Tryz.func62, Tryz.ntmps62
  go_wp2_with fail
  rw [← HD.out]
  generalize hw1 : World.alloc w _ = w1
  have GB := ι (show Below D w w1 by subst hw1; rw [HD.out]; exact below_one _ _)
  have hs1 : D ≤ w1.heap.size := by subst hw1; simp; have := HD.out; omega
  have H1 := ι (show PcAt w1 A L from HS.out.ext (HD.out ▸ GB.out))
  clear hw1
  refine (HC.out w1 H1.out).mono ?_
  rintro e w2 ⟨rfl, hb⟩
  have G2 := ι (GB.out.trans (hb.mono hs1))
  clear hb HC
  go_wp2_with fail
  go_ret2
  exact ⟨⟨_, rfl, World.ownsRow_nil _ _ _ _⟩, G2.out⟩
 rw [show preP L s = ([], chkP L) by unfold preP; rw [if_neg h0]]
 rw [if_neg h0] at HC
 generalize chkP L = E at *
 have h0b : (E == 0) = false := by simpa using h0
 go_enter Tryz.func62, Tryz.ntmps62
 go_wp2_with fail
 rw [← HD.out]
 generalize hw1 : World.alloc w _ = w1
 have GB := ι (show Below D w w1 by subst hw1; rw [HD.out]; exact below_one _ _)
 have hs1 : D ≤ w1.heap.size := by subst hw1; simp; have := HD.out; omega
 have H1 := ι (show PcAt w1 A L from HS.out.ext (HD.out ▸ GB.out))
 clear hw1
 refine (HC.out w1 H1.out).mono ?_
 rintro e w2 ⟨rfl, hb⟩
 have G2 := ι (GB.out.trans (hb.mono hs1))
 clear hb HC
 go_wp2_with fail
 go_ret2
 exact ⟨⟨_, rfl, World.ownsRow_nil _ _ _ _⟩, G2.out⟩
end Go.Proofs.YtmopjhbfobmklaaGreatDoor
namespace Go.Proofs.YtmopjhbfobmklaaGreatDoor
open Go.RowKit Go.Joins
set_option linter.unusedVariables false
set_option linter.unusedSimpArgs false
def PhiImgY (uv : Value) (x : Pc) (s : Spn) (X D : Nat) (ra rb : Int) : Nat → Value → Prop
 | 44, v => v = uv
 | 45, v => v = pcA x
 | 46, v => v = .int .i64 (max x.i s.i)
 | 47, v => v = .int .i64 ra
 | 48, v => v = pcA x
 | 49, v => v = .int .i64 (min x.o s.o)
 | 50, v => v = .int .i64 (min x.o s.o - 1)
 | 51, v => v = .int .i64 rb
 | 52, v => v = .int .i64 (rb + 1)
 | 53, v => v = spA ⟨ra, rb + 1⟩
 | _, _ => True
def PhiImg (uv : Value) (x : Pc) (s : Spn) (X D : Nat) (ra rb : Int) (E : Nat) (sl : Nat) (v : Value) (w : World) : Prop := PhiImgY uv x s X D ra rb sl v ∧ (sl = 54 → ∃ h, v = .slice (some ⟨h, 0, none⟩) 1 1 ∧ E ≤ h ∧ Held w h [.int .i64 ra, .int .i64 (rb + 1)])
theorem PhiImg.ext {uv : Value} {x : Pc} {s : Spn} {X D : Nat} {ra rb : Int} {E : Nat} {w w' : World} (hb : Below w.heap.size w w') : ∀ sl v, PhiImg uv x s X D ra rb E sl v w → PhiImg uv x s X D ra rb E sl v w' := fun sl v h => ⟨h.1, fun e => let ⟨h1, h2, h3, h4⟩ := h.2 e; ⟨h1, h2, h3, h4.ext hb⟩⟩
def PhiImgrY (uv : Value) (x : Pc) (s : Spn) (X D : Nat) (ra rb : Int) : Nat → Value → Prop
 | 59, v => v = uv
 | 60, v => v = pcA x
 | 61, v => v = .int .i64 (max x.i s.i)
 | 62, v => v = .int .i64 ra
 | 63, v => v = pcA x
 | 64, v => v = .int .i64 (min x.o s.o)
 | 65, v => v = .int .i64 (min x.o s.o - 1)
 | 66, v => v = .int .i64 rb
 | 67, v => v = .int .i64 (rb + 1)
 | 68, v => v = spA ⟨ra, rb + 1⟩
 | _, _ => True
def PhiImgr (uv : Value) (x : Pc) (s : Spn) (X D : Nat) (ra rb : Int) (E : Nat) (sl : Nat) (v : Value) (w : World) : Prop := PhiImgrY uv x s X D ra rb sl v ∧ (sl = 69 → ∃ h, v = .slice (some ⟨h, 0, none⟩) 1 1 ∧ E ≤ h ∧ Held w h [.int .i64 ra, .int .i64 (rb + 1)])
theorem PhiImgr.ext {uv : Value} {x : Pc} {s : Spn} {X D : Nat} {ra rb : Int} {E : Nat} {w w' : World} (hb : Below w.heap.size w w') : ∀ sl v, PhiImgr uv x s X D ra rb E sl v w → PhiImgr uv x s X D ra rb E sl v w' := fun sl v h => ⟨h.1, fun e => let ⟨h1, h2, h3, h4⟩ := h.2 e; ⟨h1, h2, h3, h4.ext hb⟩⟩
end Go.Proofs.YtmopjhbfobmklaaGreatDoor
namespace Go.Proofs.YtmopjhbfobmklaaGreatDoor
open Go.RowKit Go.Joins
set_option linter.unusedVariables false
set_option linter.unusedSimpArgs false
def PhiTxtY (uv : Value) (x : Pc) (X : Nat) (t1 t2 t3 t4 t5 : List UInt8) : Nat → Value → Prop
 | 22, v => v = uv
 | 23, v => v = .pointer (some ⟨X, 0, none⟩)
 | 24, v => v = .int .i64 x.i
 | 25, v => v = .string (sB (Lib.itoa x.i))
 | 26, v => v = .string (sB t1)
 | 27, v => v = .pointer (some ⟨X, 1, none⟩)
 | 28, v => v = .int .i64 x.o
 | 29, v => v = .string (sB (Lib.itoa x.o))
 | 30, v => v = .string (sB t2)
 | 31, v => v = .string (sB t3)
 | 32, v => v = .pointer (some ⟨X, 2, none⟩)
 | 33, v => v = .int .i64 x.t
 | 34, v => v = .string (sB (Lib.itoa x.t))
 | 35, v => v = .string (sB t4)
 | 36, v => v = .string (sB t5)
 | 37, v => v = .pointer (some ⟨X, 3, none⟩)
 | 38, v => v = rtA x.n x.d
 | 39, v => v = .string (sB (Q.textL x.n x.d))
 | 40, v => v = .string (sB (wdP x))
 | _, _ => True
def PhiTxt (uv : Value) (x : Pc) (X : Nat) (t1 t2 t3 t4 t5 : List UInt8) (E : Nat) (sl : Nat) (v : Value) (w : World) : Prop := PhiTxtY uv x X t1 t2 t3 t4 t5 sl v ∧ (sl = 41 → ∃ h, v = .slice (some ⟨h, 0, none⟩) 1 1 ∧ E ≤ h ∧ Held w h [.string (sB (wdP x))])
theorem PhiTxt.ext {uv : Value} {x : Pc} {X : Nat} {t1 t2 t3 t4 t5 : List UInt8} {E : Nat} {w w' : World} (hb : Below w.heap.size w w') : ∀ sl v, PhiTxt uv x X t1 t2 t3 t4 t5 E sl v w → PhiTxt uv x X t1 t2 t3 t4 t5 E sl v w' := fun sl v h => ⟨h.1, fun e => let ⟨h1, h2, h3, h4⟩ := h.2 e; ⟨h1, h2, h3, h4.ext hb⟩⟩
end Go.Proofs.YtmopjhbfobmklaaGreatDoor
