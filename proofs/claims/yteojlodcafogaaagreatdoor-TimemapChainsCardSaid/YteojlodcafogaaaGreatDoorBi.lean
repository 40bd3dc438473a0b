/-
  Preimage, Image and Text. The conditions of the contracts are their hypotheses.
-/
import Derived.Test.YteojlodcafogaaaGreatDoorBh
import Derived.Test.YteojlodcafogaaaGreatDoorBg
import Derived.Test.YteojlodcafogaaaGreatDoorBc
namespace Go.Proofs.YteojlodcafogaaaGreatDoor
open Go.RowKit Go.Joins
set_option linter.unusedVariables false
set_option linter.unusedSimpArgs false
theorem pre_step {L : List Pc} {k : Nat} {x : Pc} (s : Spn) (hk : L[k]? = some x) : preL (L.take (k + 1)) s = preL (L.take k) s ++ [⟨reaP x s.i, reaP x s.o⟩] := by
  unfold preL
  rw [List.take_add_one, hk, List.map_append]
  rfl
theorem preL_len (L : List Pc) (s : Spn) : (preL L s).length = L.length := List.length_map ..
theorem one_bd {s : Spn} (h : chkS [s] = 0) : 0 ≤ s.i ∧ s.i ≤ 10378368000 ∧ 0 ≤ s.o ∧ s.o ≤ 10378368000 := by
  obtain ⟨_, hc, hb⟩ := chkS_ok.1 h
  have h1 := can_pos hc s (List.mem_singleton.2 rfl)
  have h2 := hb s (List.mem_singleton.2 rfl)
  have h3 : s.o ≤ 10378368000 := h2.2
  omega
theorem kept_of {l : List Oper} {n s : Nat} (h : (List.range n).all (fun j => dstOf l j != some s) = true) : ∀ j, j < n → dstOf l j ≠ some s := fun j hj e => by
  have := List.all_eq_true.1 h j (List.mem_range.2 hj)
  rw [e] at this
  simp at this
def PhiPreY (uv : Value) (x : Pc) (s : Spn) (X D : Nat) (ra rb : Int) : Nat → Value → Prop
  | 22, v => v = uv
  | 23, v => v = pcA x
  | 24, v => v = .pointer (some ⟨D, 0, none⟩)
  | 25, v => v = .int .i64 s.i
  | 26, v => v = .int .i64 ra
  | 27, v => v = pcA x
  | 28, v => v = .pointer (some ⟨D, 1, none⟩)
  | 29, v => v = .int .i64 s.o
  | 30, v => v = .int .i64 rb
  | 31, v => v = spA ⟨ra, rb⟩
  | _, _ => True
def PhiPre (uv : Value) (x : Pc) (s : Spn) (X D : Nat) (ra rb : Int) (E : Nat) (sl : Nat) (v : Value) (w : World) : Prop := PhiPreY uv x s X D ra rb sl v ∧ (sl = 32 → ∃ h, v = .slice (some ⟨h, 0, none⟩) 1 1 ∧ E ≤ h ∧ Held w h [.int .i64 ra, .int .i64 rb])
theorem PhiPre.ext {uv : Value} {x : Pc} {s : Spn} {X D : Nat} {ra rb : Int} {E : Nat} {w w' : World} (hb : Below w.heap.size w w') : ∀ sl v, PhiPre uv x s X D ra rb E sl v w → PhiPre uv x s X D ra rb E sl v w' := fun sl v h => ⟨h.1, fun e => let ⟨h1, h2, h3, h4⟩ := h.2 e; ⟨h1, h2, h3, h4.ext hb⟩⟩
def PhiPrerY (uv : Value) (x : Pc) (s : Spn) (X D : Nat) (ra rb : Int) : Nat → Value → Prop
  | 28, v => v = uv
  | 29, v => v = pcA x
  | 30, v => v = .pointer (some ⟨D, 0, none⟩)
  | 31, v => v = .int .i64 s.i
  | 32, v => v = .int .i64 ra
  | 33, v => v = pcA x
  | 34, v => v = .pointer (some ⟨D, 1, none⟩)
  | 35, v => v = .int .i64 s.o
  | 36, v => v = .int .i64 rb
  | 37, v => v = spA ⟨ra, rb⟩
  | _, _ => True
def PhiPrer (uv : Value) (x : Pc) (s : Spn) (X D : Nat) (ra rb : Int) (E : Nat) (sl : Nat) (v : Value) (w : World) : Prop := PhiPrerY uv x s X D ra rb sl v ∧ (sl = 38 → ∃ h, v = .slice (some ⟨h, 0, none⟩) 1 1 ∧ E ≤ h ∧ Held w h [.int .i64 ra, .int .i64 rb])
theorem PhiPrer.ext {uv : Value} {x : Pc} {s : Spn} {X D : Nat} {ra rb : Int} {E : Nat} {w w' : World} (hb : Below w.heap.size w w') : ∀ sl v, PhiPrer uv x s X D ra rb E sl v w → PhiPrer uv x s X D ra rb E sl v w' := fun sl v h => ⟨h.1, fun e => let ⟨h1, h2, h3, h4⟩ := h.2 e; ⟨h1, h2, h3, h4.ext hb⟩⟩
set_option maxRecDepth 100000 in
set_option maxHeartbeats 4000000 in
theorem pre_any (A : Option Addr) (c : Nat) (L : List Pc) (s : Spn) (w : World) (hs : PcAt w A L) (hf : Frp L) (hl : L.length ≤ 1000000000) :
    Calls Tryz.prog 26 #[.slice A L.length c, spA s] w (RetP (preP L s) w) := by
  have HS := Lib.hid hs
  have HC := Lib.hid (fun (W : World) (h : PcAt W A L) => cspan_any A c L s W h hf hl)
  clear hs hf
  unfold RetP
  obtain ⟨D, hD⟩ : ∃ D, D = w.heap.size := ⟨_, rfl⟩
  have HD := Lib.hid hD
  rw [← hD]
  clear hD
  by_cases h0 : chkP L = 0
  · by_cases h1 : chkS [s] = 0
    · have HN := Lib.hid (pre_nor h0 h1)
      have HIN := Lib.hid (pre_in h0 s).1
      have HG := Lib.hid (chkP_ok.1 h0).2.1
      rw [show preP L s = (joinS (preL L s), 0) by unfold preP; rw [if_pos h0, if_pos h1]] at HN ⊢
      rw [if_pos h0, h1] at HC
      have HSB := Lib.hid (one_bd h1)
      obtain ⟨i0, hi, hz0, hz1, hz2⟩ := info_parts infoS
      have HI0 := Lib.hid (And.intro hi (And.intro hz0 (And.intro hz1 hz2)))
      have hl6 := (chkP_ok.1 h0).1
      clear hi hz0 hz1 hz2 h0 h1
      go_enter Tryz.func26, Tryz.ntmps26
      go_wp2_with fail
      rw [← HD.out]
      generalize hw1 : World.alloc w _ = w1
      have F1 := Lib.hid (show Held w1 D [.int .i64 s.i, .int .i64 s.o] by subst hw1; exact Held.new HD.out)
      have GB := Lib.hid (show Below D w w1 by subst hw1; rw [HD.out]; exact below_one _ _)
      have H1 := Lib.hid (show PcAt w1 A L from HS.out.ext (HD.out ▸ GB.out))
      obtain ⟨N, hN⟩ : ∃ N, N = w1.heap.size := ⟨_, rfl⟩
      have HNN := Lib.hid hN
      have hDN : D < N := by rw [hN]; exact F1.out.lt
      clear hw1 hN
      refine (HC.out w1 H1.out).mono ?_
      rintro e w2 ⟨rfl, hb⟩
      have G2 := Lib.hid (show Below N w1 w2 from HNN.out ▸ hb)
      clear hb HC
      go_wp2_with fail
      go_loopw [7, 18] (fun ov i wr => ∃ (k : Nat) (uv : Value), uv = ov ∧ k ≤ L.length ∧ i = .int .i64 k ∧ Hid (wr.ownsRow N 42 2 uv (preL (L.take k) s).length ((preL (L.take k) s).flatMap spV)) ∧ Hid (Below N w1 wr)) (fun _ i _ => L.length - (intOf i).toNat)
      case atStart => exact ⟨0, _, rfl, by omega, rfl, Lib.hid (World.ownsRow_nil _ _ _ _), G2⟩
      case round =>
        obtain ⟨k, uv, rfl, hk, rfl, HO, G⟩ := hrel
        have hNw : N ≤ wr.heap.size := by have := G.out.size; have := HNN.out; omega
        by_cases hlt : k < L.length
        · have hlt2 : (k : Int) < (L.length : Int) := by omega
          obtain ⟨x, hx⟩ : ∃ x, L[k]? = some x := ⟨_, List.getElem?_eq_getElem hlt⟩
          have HRw := H1.out.ext (HNN.out ▸ G.out)
          obtain ⟨g, o, rfl⟩ := PcAt.some HRw hx
          obtain ⟨q0, q1, q2, q3, q4⟩ := PcAt.get HRw hx
          have HST := Lib.hid (pre_step s hx)
          have HGX := Lib.hid (HG.out x (List.mem_of_getElem? hx))
          have hm : (preL (L.take k) s).length ≤ 64 := by rw [preL_len, List.length_take]; omega
          generalize preL (L.take k) s = M at *
          clear HRw hx
          go_wp2_with fail
          generalize hw5 : World.alloc wr _ = w5
          have F5 : Held w5 wr.heap.size (pcV x) := by subst hw5; exact Held.new rfl
          obtain ⟨z0, z1, z2, z3, z4⟩ := five_of F5
          have G5 := Lib.hid (show Below N w1 w5 by subst hw5; exact G.out.alloc hNw _)
          obtain ⟨s0, s1⟩ := two_of (F1.out.below G5.out hDN)
          have HO5 := Lib.hid (show w5.ownsRow N 42 2 uv M.length (M.flatMap spV) by subst hw5; exact HO.out.alloc _)
          have hX5 := F5.lt
          generalize wr.heap.size = X at *
          clear hw5 q0 q1 q2 q3 q4 HO G F5
          obtain ⟨E, hE⟩ : ∃ E, E = w5.heap.size := ⟨_, rfl⟩
          have hNE : N ≤ E := by rw [hE]; have := G5.out.size; have := HNN.out; omega
          have hXE : X < E := by omega
          have hDE : D < E := by omega
          have HOX := Lib.hid (fun W (hW : Below E w5 W) => show W.ownsRow N 42 2 uv M.length (M.flatMap spV) from ownsRow_below (B := E) HO5.out hW (Nat.le_of_eq hE.symm))
          have HSZ := Lib.hid (fun W (hW : Below E w5 W) => show E ≤ W.heap.size by have := hW.size; omega)
          obtain ⟨x0, x1, x2, x3⟩ := HSB.out
          obtain ⟨ra, hra⟩ : ∃ a, a = reaP x s.i := ⟨_, rfl⟩
          obtain ⟨rb, hrb⟩ : ∃ a, a = reaP x s.o := ⟨_, rfl⟩
          have HFA := Lib.hid (fun W => rea_any x s.i W HGX.out x0 x1)
          have HFB := Lib.hid (fun W => rea_any x s.o W HGX.out x2 x3)
          rw [← hra] at HFA HST
          rw [← hrb] at HFB HST
          clear hE hra hrb x0 x1 x2 x3
          refine wp_region_spec_tail 11 (by kernel_rfl) (fun w' => Below E w5 w') (PhiPre uv x s X D ra rb E) 39 rfl (by kernel_rfl) (by kernel_rfl) (by kernel_rfl) (by kernel_rfl) (by kernel_rfl) (Below.refl _ _).drew ?hops ?hend
          case hops =>
            refine ⟨?o0, ?o1, ?o2, ?o3, ?o4, ?o5, ?o6, ?o7, ?o8, ?o9, ?o10, trivial⟩
            case o0 =>
              intro ev w8 hI hdep hfree
              have a7 : ev 7 = uv := hfree 7 (by kernel_rfl)
              clear hdep hfree
              try dsimp only
              simp [OpRuns, execOp, evalOf, a7, go_sem]
              first | exact ⟨hI, rfl, fun e => absurd e (by decide)⟩ | exact ⟨hI, rfl⟩ | exact hI
            case o1 =>
              intro ev w8 hI hdep hfree
              have a9 : ev 9 = Value.pointer (some { block := X, off := 0 }) := hfree 9 (by kernel_rfl)
              clear hdep hfree
              have y0 : w8.cell? ⟨X, 0, none⟩ = some (.int .i64 x.i) := (hI.cell (p := ⟨X, 0, none⟩) hXE).trans z0
              have y1 : w8.cell? ⟨X, 1, none⟩ = some (.int .i64 x.o) := (hI.cell (p := ⟨X, 1, none⟩) hXE).trans z1
              have y2 : w8.cell? ⟨X, 2, none⟩ = some (.int .i64 x.t) := (hI.cell (p := ⟨X, 2, none⟩) hXE).trans z2
              have y3 : w8.cell? ⟨X, 3, none⟩ = some (.int .i64 x.n) := (hI.cell (p := ⟨X, 3, none⟩) hXE).trans z3
              have y4 : w8.cell? ⟨X, 4, none⟩ = some (.int .i64 x.d) := (hI.cell (p := ⟨X, 4, none⟩) hXE).trans z4
              try dsimp only
              simp [OpRuns, execOp, evalOf, a9, y0, y1, y2, y3, y4, go_sem]
              first | exact ⟨hI, rfl, fun e => absurd e (by decide)⟩ | exact ⟨hI, rfl⟩ | exact hI
            case o2 =>
              intro ev w8 hI hdep hfree
              have a3 : ev 3 = Value.pointer (some { block := D, off := 0 }) := hfree 3 (by kernel_rfl)
              clear hdep hfree
              try dsimp only
              simp [OpRuns, execOp, evalOf, a3, go_sem]
              first | exact ⟨hI, rfl, fun e => absurd e (by decide)⟩ | exact ⟨hI, rfl⟩ | exact hI
            case o3 =>
              intro ev w8 hI hdep hfree
              have a24 : ev 24 = .pointer (some ⟨D, 0, none⟩) := (hdep 2 24 (by kernel_rfl) (by kernel_rfl)).1
              clear hdep hfree
              have y0 : w8.cell? ⟨D, 0, none⟩ = some (.int .i64 s.i) := (hI.cell (p := ⟨D, 0, none⟩) hDE).trans s0
              try dsimp only
              simp [OpRuns, execOp, evalOf, a24, y0, go_sem]
              first | exact ⟨hI, rfl, fun e => absurd e (by decide)⟩ | exact ⟨hI, rfl⟩ | exact hI
            case o4 =>
              intro ev w8 hI hdep hfree
              have a23 : ev 23 = pcA x := (hdep 1 23 (by kernel_rfl) (by kernel_rfl)).1
              have a25 : ev 25 = .int .i64 s.i := (hdep 3 25 (by kernel_rfl) (by kernel_rfl)).1
              clear hdep hfree
              try dsimp only
              refine runs_call (f := 53) (args := #[pcA x, .int .i64 s.i]) (by simp [execOp, evalOf, resolve, invoke, a23, a25, go_sem]) ((HFA.out w8).mono ?_)
              rintro e w9 ⟨he, hb⟩
              exact ⟨_, he, hI.trans (hb.mono (HSZ.out w8 hI)), PhiPre.ext hb, fun d hd => by cases hd; exact ⟨rfl, fun e => absurd e (by decide)⟩⟩
            case o5 =>
              intro ev w8 hI hdep hfree
              have a9 : ev 9 = Value.pointer (some { block := X, off := 0 }) := hfree 9 (by kernel_rfl)
              clear hdep hfree
              have y0 : w8.cell? ⟨X, 0, none⟩ = some (.int .i64 x.i) := (hI.cell (p := ⟨X, 0, none⟩) hXE).trans z0
              have y1 : w8.cell? ⟨X, 1, none⟩ = some (.int .i64 x.o) := (hI.cell (p := ⟨X, 1, none⟩) hXE).trans z1
              have y2 : w8.cell? ⟨X, 2, none⟩ = some (.int .i64 x.t) := (hI.cell (p := ⟨X, 2, none⟩) hXE).trans z2
              have y3 : w8.cell? ⟨X, 3, none⟩ = some (.int .i64 x.n) := (hI.cell (p := ⟨X, 3, none⟩) hXE).trans z3
              have y4 : w8.cell? ⟨X, 4, none⟩ = some (.int .i64 x.d) := (hI.cell (p := ⟨X, 4, none⟩) hXE).trans z4
              try dsimp only
              simp [OpRuns, execOp, evalOf, a9, y0, y1, y2, y3, y4, go_sem]
              first | exact ⟨hI, rfl, fun e => absurd e (by decide)⟩ | exact ⟨hI, rfl⟩ | exact hI
            case o6 =>
              intro ev w8 hI hdep hfree
              have a3 : ev 3 = Value.pointer (some { block := D, off := 0 }) := hfree 3 (by kernel_rfl)
              clear hdep hfree
              try dsimp only
              simp [OpRuns, execOp, evalOf, a3, go_sem]
              first | exact ⟨hI, rfl, fun e => absurd e (by decide)⟩ | exact ⟨hI, rfl⟩ | exact hI
            case o7 =>
              intro ev w8 hI hdep hfree
              have a28 : ev 28 = .pointer (some ⟨D, 1, none⟩) := (hdep 6 28 (by kernel_rfl) (by kernel_rfl)).1
              clear hdep hfree
              have y0 : w8.cell? ⟨D, 1, none⟩ = some (.int .i64 s.o) := (hI.cell (p := ⟨D, 1, none⟩) hDE).trans s1
              try dsimp only
              simp [OpRuns, execOp, evalOf, a28, y0, go_sem]
              first | exact ⟨hI, rfl, fun e => absurd e (by decide)⟩ | exact ⟨hI, rfl⟩ | exact hI
            case o8 =>
              intro ev w8 hI hdep hfree
              have a27 : ev 27 = pcA x := (hdep 5 27 (by kernel_rfl) (by kernel_rfl)).1
              have a29 : ev 29 = .int .i64 s.o := (hdep 7 29 (by kernel_rfl) (by kernel_rfl)).1
              clear hdep hfree
              try dsimp only
              refine runs_call (f := 53) (args := #[pcA x, .int .i64 s.o]) (by simp [execOp, evalOf, resolve, invoke, a27, a29, go_sem]) ((HFB.out w8).mono ?_)
              rintro e w9 ⟨he, hb⟩
              exact ⟨_, he, hI.trans (hb.mono (HSZ.out w8 hI)), PhiPre.ext hb, fun d hd => by cases hd; exact ⟨rfl, fun e => absurd e (by decide)⟩⟩
            case o9 =>
              intro ev w8 hI hdep hfree
              have a26 : ev 26 = .int .i64 ra := (hdep 4 26 (by kernel_rfl) (by kernel_rfl)).1
              have a30 : ev 30 = .int .i64 rb := (hdep 8 30 (by kernel_rfl) (by kernel_rfl)).1
              clear hdep hfree
              try dsimp only
              simp [OpRuns, execOp, evalOf, a26, a30, go_sem]
              first | exact ⟨hI, rfl, fun e => absurd e (by decide)⟩ | exact ⟨hI, rfl⟩ | exact hI
            case o10 =>
              intro ev w8 hI hdep hfree
              have a31 : ev 31 = spA ⟨ra, rb⟩ := (hdep 9 31 (by kernel_rfl) (by kernel_rfl)).1
              clear hdep hfree
              try dsimp only
              simp [OpRuns, execOp, evalOf, a31, go_sem]
              exact ⟨hI.alloc (HSZ.out w8 hI) _, PhiPre.ext (below_one _ _), trivial, fun _ => ⟨_, rfl, HSZ.out w8 hI, Held.new rfl⟩⟩
          case hend =>
            intro a w6 hdf hsz hI hPhi hkept
            replace hdf : a.defers = [] := hdf
            replace hsz : a.tmps.size = 39 := hsz
            have x22 : a.tmps.getD 22 undef = uv := (hPhi 0 22 (by omega) (by kernel_rfl)).1
            obtain ⟨h32, x32, hE32, HH32⟩ := (hPhi 10 32 (by omega) (by kernel_rfl)).2 rfl
            have x0 : a.tmps.getD 0 undef = Value.slice (some { block := g, off := o }) L.length c := hkept 0 (kept_of (by kernel_rfl))
            have x1 : a.tmps.getD 1 undef = spA s := hkept 1 (kept_of (by kernel_rfl))
            have x2 : a.tmps.getD 2 undef = undef := hkept 2 (kept_of (by kernel_rfl))
            have x3 : a.tmps.getD 3 undef = Value.pointer (some { block := D, off := 0 }) := hkept 3 (kept_of (by kernel_rfl))
            have x4 : a.tmps.getD 4 undef = Value.slice none 0 0 := hkept 4 (kept_of (by kernel_rfl))
            have x5 : a.tmps.getD 5 undef = Value.int IntKind.i64 0 := hkept 5 (kept_of (by kernel_rfl))
            have x6 : a.tmps.getD 6 undef = Value.int IntKind.i64 0 := hkept 6 (kept_of (by kernel_rfl))
            have x7 : a.tmps.getD 7 undef = uv := hkept 7 (kept_of (by kernel_rfl))
            have x8 : a.tmps.getD 8 undef = undef := hkept 8 (kept_of (by kernel_rfl))
            have x9 : a.tmps.getD 9 undef = Value.pointer (some { block := X, off := 0 }) := hkept 9 (kept_of (by kernel_rfl))
            have x10 : a.tmps.getD 10 undef = Value.slice (some { block := g, off := o }) L.length c := hkept 10 (kept_of (by kernel_rfl))
            have x11 : a.tmps.getD 11 undef = Value.agg #[Value.int IntKind.i64 s.i, Value.int IntKind.i64 s.o] := hkept 11 (kept_of (by kernel_rfl))
            have x12 : a.tmps.getD 12 undef = Value.int IntKind.i64 0 := hkept 12 (kept_of (by kernel_rfl))
            have x13 : a.tmps.getD 13 undef = Value.int IntKind.i64 0 := hkept 13 (kept_of (by kernel_rfl))
            have x14 : a.tmps.getD 14 undef = Value.bool false := hkept 14 (kept_of (by kernel_rfl))
            have x15 : a.tmps.getD 15 undef = undef := hkept 15 (kept_of (by kernel_rfl))
            have x16 : a.tmps.getD 16 undef = Value.slice (some { block := g, off := o }) L.length c := hkept 16 (kept_of (by kernel_rfl))
            have x17 : a.tmps.getD 17 undef = Value.int IntKind.i64 (↑L.length : Int) := hkept 17 (kept_of (by kernel_rfl))
            have x18 : a.tmps.getD 18 undef = Value.int IntKind.i64 (↑k : Int) := hkept 18 (kept_of (by kernel_rfl))
            have x19 : a.tmps.getD 19 undef = Value.bool true := hkept 19 (kept_of (by kernel_rfl))
            have x20 : a.tmps.getD 20 undef = Value.pointer (some { block := g, off := o + k * 5 }) := hkept 20 (kept_of (by kernel_rfl))
            have x21 : a.tmps.getD 21 undef = Value.agg #[Value.int IntKind.i64 x.i, Value.int IntKind.i64 x.o, Value.int IntKind.i64 x.t, Value.int IntKind.i64 x.n, Value.int IntKind.i64 x.d] := hkept 21 (kept_of (by kernel_rfl))
            have x35 : a.tmps.getD 35 undef = undef := hkept 35 (kept_of (by kernel_rfl))
            have x36 : a.tmps.getD 36 undef = undef := hkept 36 (kept_of (by kernel_rfl))
            have x37 : a.tmps.getD 37 undef = undef := hkept 37 (kept_of (by kernel_rfl))
            have x38 : a.tmps.getD 38 undef = undef := hkept 38 (kept_of (by kernel_rfl))
            have ea := act_lit hsz hdf
            simp only [getDs] at ea
            rw [x22, x32, x0, x1, x2, x3, x4, x5, x6, x7, x8, x9, x10, x11, x12, x13, x14, x15, x16, x17, x18, x19, x20, x21, x35, x36, x37, x38] at ea
            rw [ea]
            clear ea x22 x32 x0 x1 x2 x3 x4 x5 x6 x7 x8 x9 x10 x11 x12 x13 x14 x15 x16 x17 x18 x19 x20 x21 x35 x36 x37 x38 hPhi hkept hdf hsz
            generalize a.tmps.getD 23 undef = u23
            generalize a.tmps.getD 24 undef = u24
            generalize a.tmps.getD 25 undef = u25
            generalize a.tmps.getD 26 undef = u26
            generalize a.tmps.getD 27 undef = u27
            generalize a.tmps.getD 28 undef = u28
            generalize a.tmps.getD 29 undef = u29
            generalize a.tmps.getD 30 undef = u30
            generalize a.tmps.getD 31 undef = u31
            generalize a.tmps.getD 33 undef = u33
            generalize a.tmps.getD 34 undef = u34
            clear a
            have hszE : E ≤ w6.heap.size := HSZ.out w6 hI
            have HO6 := Lib.hid (HOX.out w6 hI)
            have G6 := Lib.hid (show Below N w1 w6 from G5.out.trans (hI.mono hNE))
            have hNw6 : N ≤ w6.heap.size := by omega
            obtain ⟨n0, n1⟩ := two_of HH32
            clear hI HO5 G5 z0 z1 z2 z3 z4 s0 s1 HH32
            simp only [List.drop_succ_cons, List.drop_zero]
            go_loud (refine wpList_append_lies _ rfl _ _ 35 rfl N 42 i0 (.agg #[.int .i64 0, .int .i64 0]) 2 16 Tryz.underlying35 HI0.out.1 HI0.out.2.1 HI0.out.2.2.1 HI0.out.2.2.2 rfl (by decide) uv M.length (M.flatMap spV) rfl HO6.out ⟨h32, 0, none⟩ 1 1 (spV (Spn.mk ra rb)) rfl rfl (CellsAt.all (by simp [CellsAt, go_sem, spV, n0, n1])) (by simp [Value.oneCell', spV]) (by omega) (by simp only [maxLen]; omega) (by omega) hNw6 _ rfl ?_)
            intro g' cap' w7 ho hgr hat hlt7
            have G7 := Lib.hid (show Below N w1 w7 from G6.out.grown hgr hNw6 (fun k e => (HO6.out.lt k e).1))
            have HO7 := Lib.hid (show w7.ownsRow N 42 2 (.slice (some ⟨g', 0, none⟩) (M.length + 1) cap') (M ++ [Spn.mk ra rb]).length ((M ++ [Spn.mk ra rb]).flatMap spV) by
              rw [List.flatMap_append, List.length_append]
              simpa using ho)
            rw [← HST.out] at HO7
            clear ho hgr hat hlt7 n0 n1
            go_wp2_with fail
            go_roundw
            case rel => exact ⟨k + 1, _, rfl, by omega, by go_num, HO7, G7⟩
            case measure => simp [intOf]; omega

        · obtain rfl : k = L.length := by omega
          rw [List.take_length] at HO
          obtain ⟨A4, c4, e4, hr4, _⟩ := own_form HO.out
          subst e4
          have HR4 := Lib.hid hr4
          have HIL := Lib.hid (show (preL L s).length ≤ 1000000 by have := HIN.out; omega)
          have hDw : D ≤ wr.heap.size := by omega
          have GW := Lib.hid (GB.out.trans (G.out.mono (Nat.le_of_lt hDN)))
          clear hlt hr4
          go_wp2_with fail
          refine (norm_any A4 c4 (preL L s) wr HR4.out HIL.out).mono ?_
          rw [HN.out]
          rintro e w6 ⟨⟨v, rfl, ho⟩, hb⟩
          have HO6 := Lib.hid (ownsRow_mono ho hDw)
          have G6 := Lib.hid (GW.out.trans (hb.mono hDw))
          clear ho hb
          go_wp2_with fail
          go_ret2
          exact ⟨⟨_, rfl, HO6.out⟩, G6.out⟩
    · rw [show preP L s = ([], chkS [s]) by unfold preP; rw [if_pos h0, if_neg h1]]
      rw [if_pos h0] at HC
      generalize chkS [s] = E at *
      have h0b : (E == 0) = false := by simpa using h1
      go_enter Tryz.func26, Tryz.ntmps26
      go_wp2_with fail
      rw [← HD.out]
      generalize hw1 : World.alloc w _ = w1
      have GB := Lib.hid (show Below D w w1 by subst hw1; rw [HD.out]; exact below_one _ _)
      have hs1 : D ≤ w1.heap.size := by subst hw1; simp; have := HD.out; omega
      have H1 := Lib.hid (show PcAt w1 A L from HS.out.ext (HD.out ▸ GB.out))
      clear hw1
      refine (HC.out w1 H1.out).mono ?_
      rintro e w2 ⟨rfl, hb⟩
      have G2 := Lib.hid (GB.out.trans (hb.mono hs1))
      clear hb HC
      go_wp2_with fail
      go_ret2
      exact ⟨⟨_, rfl, World.ownsRow_nil _ _ _ _⟩, G2.out⟩
  · rw [show preP L s = ([], chkP L) by unfold preP; rw [if_neg h0]]
    rw [if_neg h0] at HC
    generalize chkP L = E at *
    have h0b : (E == 0) = false := by simpa using h0
    go_enter Tryz.func26, Tryz.ntmps26
    go_wp2_with fail
    rw [← HD.out]
    generalize hw1 : World.alloc w _ = w1
    have GB := Lib.hid (show Below D w w1 by subst hw1; rw [HD.out]; exact below_one _ _)
    have hs1 : D ≤ w1.heap.size := by subst hw1; simp; have := HD.out; omega
    have H1 := Lib.hid (show PcAt w1 A L from HS.out.ext (HD.out ▸ GB.out))
    clear hw1
    refine (HC.out w1 H1.out).mono ?_
    rintro e w2 ⟨rfl, hb⟩
    have G2 := Lib.hid (GB.out.trans (hb.mono hs1))
    clear hb HC
    go_wp2_with fail
    go_ret2
    exact ⟨⟨_, rfl, World.ownsRow_nil _ _ _ _⟩, G2.out⟩
set_option maxRecDepth 100000 in
set_option maxHeartbeats 4000000 in
theorem prer_any (A : Option Addr) (c : Nat) (L : List Pc) (s : Spn) (w : World) (hs : PcAt w A L) (hf : Frp L) (hl : L.length ≤ 1000000000) :
    Calls Tryz.prog 27 #[.slice A L.length c, spA s] w (RetP (preP L s) w) := by
  have HS := Lib.hid hs
  have HC := Lib.hid (fun (W : World) (h : PcAt W A L) => chkpr_any A c L W h hf hl)
  clear hs hf
  unfold RetP
  obtain ⟨D, hD⟩ : ∃ D, D = w.heap.size := ⟨_, rfl⟩
  have HD := Lib.hid hD
  rw [← hD]
  clear hD
  by_cases h0 : chkP L = 0
  · by_cases h1 : chkS [s] = 0
    · have HN := Lib.hid (pre_nor h0 h1)
      have HIN := Lib.hid (pre_in h0 s).1
      have HG := Lib.hid (chkP_ok.1 h0).2.1
      rw [show preP L s = (joinS (preL L s), 0) by unfold preP; rw [if_pos h0, if_pos h1]] at HN ⊢
      rw [h0] at HC
      have HE := Lib.hid h1
      have HSB := Lib.hid (one_bd h1)
      obtain ⟨i0, hi, hz0, hz1, hz2⟩ := info_parts infoS
      have HI0 := Lib.hid (And.intro hi (And.intro hz0 (And.intro hz1 hz2)))
      have hl6 := (chkP_ok.1 h0).1
      clear hi hz0 hz1 hz2 h0 h1
      go_enter Tryz.func27, Tryz.ntmps27
      go_wp2_with fail
      rw [← HD.out]
      generalize hw1 : World.alloc w _ = w1
      have F1 := Lib.hid (show Held w1 D [.int .i64 s.i, .int .i64 s.o] by subst hw1; exact Held.new HD.out)
      have GB := Lib.hid (show Below D w w1 by subst hw1; rw [HD.out]; exact below_one _ _)
      have H1 := Lib.hid (show PcAt w1 A L from HS.out.ext (HD.out ▸ GB.out))
      obtain ⟨N, hN⟩ : ∃ N, N = w1.heap.size := ⟨_, rfl⟩
      have HNN := Lib.hid hN
      have hDN : D < N := by rw [hN]; exact F1.out.lt
      clear hw1 hN
      refine (HC.out w1 H1.out).mono ?_
      rintro e w2 ⟨rfl, hb⟩
      have G2 := Lib.hid (show Below N w1 w2 from HNN.out ▸ hb)
      obtain ⟨c0, c1⟩ := two_of (F1.out.ext hb)
      clear hb HC
      have hs2 : N ≤ w2.heap.size := by have := G2.out.size; have := HNN.out; omega
      go_wp2_with fail
      generalize hw3 : World.alloc w2 _ = w3
      have F3 := Lib.hid (show Held w3 w2.heap.size [.int .i64 s.i, .int .i64 s.o] by subst hw3; exact Held.new rfl)
      have G3 := Lib.hid (show Below N w1 w3 by subst hw3; exact G2.out.alloc hs2 _)
      have hs3 : N ≤ w3.heap.size := by subst hw3; simp; omega
      clear hw3 c0 c1
      refine (chkr_any (some ⟨w2.heap.size, 0, none⟩) 1 [s] w3 (one_row F3.out) (by simp)).mono ?_
      rintro e w4 ⟨rfl, hb⟩
      rw [HE.out]
      have G2 := Lib.hid (G3.out.trans (hb.mono hs3))
      clear hb F3 G3 hs2 hs3
      go_wp2_with fail
      go_loopw [8, 24] (fun ov i wr => ∃ (k : Nat) (uv : Value), uv = ov ∧ k ≤ L.length ∧ i = .int .i64 k ∧ Hid (wr.ownsRow N 42 2 uv (preL (L.take k) s).length ((preL (L.take k) s).flatMap spV)) ∧ Hid (Below N w1 wr)) (fun _ i _ => L.length - (intOf i).toNat)
      case atStart => exact ⟨0, _, rfl, by omega, rfl, Lib.hid (World.ownsRow_nil _ _ _ _), G2⟩
      case round =>
        obtain ⟨k, uv, rfl, hk, rfl, HO, G⟩ := hrel
        have hNw : N ≤ wr.heap.size := by have := G.out.size; have := HNN.out; omega
        by_cases hlt : k < L.length
        · have hlt2 : (k : Int) < (L.length : Int) := by omega
          obtain ⟨x, hx⟩ : ∃ x, L[k]? = some x := ⟨_, List.getElem?_eq_getElem hlt⟩
          have HRw := H1.out.ext (HNN.out ▸ G.out)
          obtain ⟨g, o, rfl⟩ := PcAt.some HRw hx
          obtain ⟨q0, q1, q2, q3, q4⟩ := PcAt.get HRw hx
          have HST := Lib.hid (pre_step s hx)
          have HGX := Lib.hid (HG.out x (List.mem_of_getElem? hx))
          have hm : (preL (L.take k) s).length ≤ 64 := by rw [preL_len, List.length_take]; omega
          generalize preL (L.take k) s = M at *
          clear HRw hx
          go_wp2_with fail
          generalize hw5 : World.alloc wr _ = w5
          have F5 : Held w5 wr.heap.size (pcV x) := by subst hw5; exact Held.new rfl
          obtain ⟨z0, z1, z2, z3, z4⟩ := five_of F5
          have G5 := Lib.hid (show Below N w1 w5 by subst hw5; exact G.out.alloc hNw _)
          obtain ⟨s0, s1⟩ := two_of (F1.out.below G5.out hDN)
          have HO5 := Lib.hid (show w5.ownsRow N 42 2 uv M.length (M.flatMap spV) by subst hw5; exact HO.out.alloc _)
          have hX5 := F5.lt
          generalize wr.heap.size = X at *
          clear hw5 q0 q1 q2 q3 q4 HO G F5
          obtain ⟨E, hE⟩ : ∃ E, E = w5.heap.size := ⟨_, rfl⟩
          have hNE : N ≤ E := by rw [hE]; have := G5.out.size; have := HNN.out; omega
          have hXE : X < E := by omega
          have hDE : D < E := by omega
          have HOX := Lib.hid (fun W (hW : Below E w5 W) => show W.ownsRow N 42 2 uv M.length (M.flatMap spV) from ownsRow_below (B := E) HO5.out hW (Nat.le_of_eq hE.symm))
          have HSZ := Lib.hid (fun W (hW : Below E w5 W) => show E ≤ W.heap.size by have := hW.size; omega)
          obtain ⟨x0, x1, x2, x3⟩ := HSB.out
          obtain ⟨ra, hra⟩ : ∃ a, a = reaP x s.i := ⟨_, rfl⟩
          obtain ⟨rb, hrb⟩ : ∃ a, a = reaP x s.o := ⟨_, rfl⟩
          have HFA := Lib.hid (fun W => rear_any x s.i W HGX.out x0 x1)
          have HFB := Lib.hid (fun W => rear_any x s.o W HGX.out x2 x3)
          rw [← hra] at HFA HST
          rw [← hrb] at HFB HST
          clear hE hra hrb x0 x1 x2 x3
          refine wp_region_spec_tail 11 (by kernel_rfl) (fun w' => Below E w5 w') (PhiPrer uv x s X D ra rb E) 43 rfl (by kernel_rfl) (by kernel_rfl) (by kernel_rfl) (by kernel_rfl) (by kernel_rfl) (Below.refl _ _).drew ?hops ?hend
          case hops =>
            refine ⟨?o0, ?o1, ?o2, ?o3, ?o4, ?o5, ?o6, ?o7, ?o8, ?o9, ?o10, trivial⟩
            case o0 =>
              intro ev w8 hI hdep hfree
              have a8 : ev 8 = uv := hfree 8 (by kernel_rfl)
              clear hdep hfree
              try dsimp only
              simp [OpRuns, execOp, evalOf, a8, go_sem]
              first | exact ⟨hI, rfl, fun e => absurd e (by decide)⟩ | exact ⟨hI, rfl⟩ | exact hI
            case o1 =>
              intro ev w8 hI hdep hfree
              have a10 : ev 10 = Value.pointer (some { block := X, off := 0 }) := hfree 10 (by kernel_rfl)
              clear hdep hfree
              have y0 : w8.cell? ⟨X, 0, none⟩ = some (.int .i64 x.i) := (hI.cell (p := ⟨X, 0, none⟩) hXE).trans z0
              have y1 : w8.cell? ⟨X, 1, none⟩ = some (.int .i64 x.o) := (hI.cell (p := ⟨X, 1, none⟩) hXE).trans z1
              have y2 : w8.cell? ⟨X, 2, none⟩ = some (.int .i64 x.t) := (hI.cell (p := ⟨X, 2, none⟩) hXE).trans z2
              have y3 : w8.cell? ⟨X, 3, none⟩ = some (.int .i64 x.n) := (hI.cell (p := ⟨X, 3, none⟩) hXE).trans z3
              have y4 : w8.cell? ⟨X, 4, none⟩ = some (.int .i64 x.d) := (hI.cell (p := ⟨X, 4, none⟩) hXE).trans z4
              try dsimp only
              simp [OpRuns, execOp, evalOf, a10, y0, y1, y2, y3, y4, go_sem]
              first | exact ⟨hI, rfl, fun e => absurd e (by decide)⟩ | exact ⟨hI, rfl⟩ | exact hI
            case o2 =>
              intro ev w8 hI hdep hfree
              have a3 : ev 3 = Value.pointer (some { block := D, off := 0 }) := hfree 3 (by kernel_rfl)
              clear hdep hfree
              try dsimp only
              simp [OpRuns, execOp, evalOf, a3, go_sem]
              first | exact ⟨hI, rfl, fun e => absurd e (by decide)⟩ | exact ⟨hI, rfl⟩ | exact hI
            case o3 =>
              intro ev w8 hI hdep hfree
              have a30 : ev 30 = .pointer (some ⟨D, 0, none⟩) := (hdep 2 30 (by kernel_rfl) (by kernel_rfl)).1
              clear hdep hfree
              have y0 : w8.cell? ⟨D, 0, none⟩ = some (.int .i64 s.i) := (hI.cell (p := ⟨D, 0, none⟩) hDE).trans s0
              try dsimp only
              simp [OpRuns, execOp, evalOf, a30, y0, go_sem]
              first | exact ⟨hI, rfl, fun e => absurd e (by decide)⟩ | exact ⟨hI, rfl⟩ | exact hI
            case o4 =>
              intro ev w8 hI hdep hfree
              have a29 : ev 29 = pcA x := (hdep 1 29 (by kernel_rfl) (by kernel_rfl)).1
              have a31 : ev 31 = .int .i64 s.i := (hdep 3 31 (by kernel_rfl) (by kernel_rfl)).1
              clear hdep hfree
              try dsimp only
              refine runs_call (f := 55) (args := #[pcA x, .int .i64 s.i]) (by simp [execOp, evalOf, resolve, invoke, a29, a31, go_sem]) ((HFA.out w8).mono ?_)
              rintro e w9 ⟨he, hb⟩
              exact ⟨_, he, hI.trans (hb.mono (HSZ.out w8 hI)), PhiPrer.ext hb, fun d hd => by cases hd; exact ⟨rfl, fun e => absurd e (by decide)⟩⟩
            case o5 =>
              intro ev w8 hI hdep hfree
              have a10 : ev 10 = Value.pointer (some { block := X, off := 0 }) := hfree 10 (by kernel_rfl)
              clear hdep hfree
              have y0 : w8.cell? ⟨X, 0, none⟩ = some (.int .i64 x.i) := (hI.cell (p := ⟨X, 0, none⟩) hXE).trans z0
              have y1 : w8.cell? ⟨X, 1, none⟩ = some (.int .i64 x.o) := (hI.cell (p := ⟨X, 1, none⟩) hXE).trans z1
              have y2 : w8.cell? ⟨X, 2, none⟩ = some (.int .i64 x.t) := (hI.cell (p := ⟨X, 2, none⟩) hXE).trans z2
              have y3 : w8.cell? ⟨X, 3, none⟩ = some (.int .i64 x.n) := (hI.cell (p := ⟨X, 3, none⟩) hXE).trans z3
              have y4 : w8.cell? ⟨X, 4, none⟩ = some (.int .i64 x.d) := (hI.cell (p := ⟨X, 4, none⟩) hXE).trans z4
              try dsimp only
              simp [OpRuns, execOp, evalOf, a10, y0, y1, y2, y3, y4, go_sem]
              first | exact ⟨hI, rfl, fun e => absurd e (by decide)⟩ | exact ⟨hI, rfl⟩ | exact hI
            case o6 =>
              intro ev w8 hI hdep hfree
              have a3 : ev 3 = Value.pointer (some { block := D, off := 0 }) := hfree 3 (by kernel_rfl)
              clear hdep hfree
              try dsimp only
              simp [OpRuns, execOp, evalOf, a3, go_sem]
              first | exact ⟨hI, rfl, fun e => absurd e (by decide)⟩ | exact ⟨hI, rfl⟩ | exact hI
            case o7 =>
              intro ev w8 hI hdep hfree
              have a34 : ev 34 = .pointer (some ⟨D, 1, none⟩) := (hdep 6 34 (by kernel_rfl) (by kernel_rfl)).1
              clear hdep hfree
              have y0 : w8.cell? ⟨D, 1, none⟩ = some (.int .i64 s.o) := (hI.cell (p := ⟨D, 1, none⟩) hDE).trans s1
              try dsimp only
              simp [OpRuns, execOp, evalOf, a34, y0, go_sem]
              first | exact ⟨hI, rfl, fun e => absurd e (by decide)⟩ | exact ⟨hI, rfl⟩ | exact hI
            case o8 =>
              intro ev w8 hI hdep hfree
              have a33 : ev 33 = pcA x := (hdep 5 33 (by kernel_rfl) (by kernel_rfl)).1
              have a35 : ev 35 = .int .i64 s.o := (hdep 7 35 (by kernel_rfl) (by kernel_rfl)).1
              clear hdep hfree
              try dsimp only
              refine runs_call (f := 55) (args := #[pcA x, .int .i64 s.o]) (by simp [execOp, evalOf, resolve, invoke, a33, a35, go_sem]) ((HFB.out w8).mono ?_)
              rintro e w9 ⟨he, hb⟩
              exact ⟨_, he, hI.trans (hb.mono (HSZ.out w8 hI)), PhiPrer.ext hb, fun d hd => by cases hd; exact ⟨rfl, fun e => absurd e (by decide)⟩⟩
            case o9 =>
              intro ev w8 hI hdep hfree
              have a32 : ev 32 = .int .i64 ra := (hdep 4 32 (by kernel_rfl) (by kernel_rfl)).1
              have a36 : ev 36 = .int .i64 rb := (hdep 8 36 (by kernel_rfl) (by kernel_rfl)).1
              clear hdep hfree
              try dsimp only
              simp [OpRuns, execOp, evalOf, a32, a36, go_sem]
              first | exact ⟨hI, rfl, fun e => absurd e (by decide)⟩ | exact ⟨hI, rfl⟩ | exact hI
            case o10 =>
              intro ev w8 hI hdep hfree
              have a37 : ev 37 = spA ⟨ra, rb⟩ := (hdep 9 37 (by kernel_rfl) (by kernel_rfl)).1
              clear hdep hfree
              try dsimp only
              simp [OpRuns, execOp, evalOf, a37, go_sem]
              exact ⟨hI.alloc (HSZ.out w8 hI) _, PhiPrer.ext (below_one _ _), trivial, fun _ => ⟨_, rfl, HSZ.out w8 hI, Held.new rfl⟩⟩
          case hend =>
            intro a w6 hdf hsz hI hPhi hkept
            replace hdf : a.defers = [] := hdf
            replace hsz : a.tmps.size = 43 := hsz
            have x28 : a.tmps.getD 28 undef = uv := (hPhi 0 28 (by omega) (by kernel_rfl)).1
            obtain ⟨h38, x38, hE38, HH38⟩ := (hPhi 10 38 (by omega) (by kernel_rfl)).2 rfl
            have x0 : a.tmps.getD 0 undef = Value.slice (some { block := g, off := o }) L.length c := hkept 0 (kept_of (by kernel_rfl))
            have x1 : a.tmps.getD 1 undef = spA s := hkept 1 (kept_of (by kernel_rfl))
            have x2 : a.tmps.getD 2 undef = undef := hkept 2 (kept_of (by kernel_rfl))
            have x3 : a.tmps.getD 3 undef = Value.pointer (some { block := D, off := 0 }) := hkept 3 (kept_of (by kernel_rfl))
            have x4 : a.tmps.getD 4 undef = Value.slice none 0 0 := hkept 4 (kept_of (by kernel_rfl))
            have x5 : a.tmps.getD 5 undef = Value.int IntKind.i64 0 := hkept 5 (kept_of (by kernel_rfl))
            have x6 : a.tmps.getD 6 undef = Value.int IntKind.i64 0 := hkept 6 (kept_of (by kernel_rfl))
            have x7 : a.tmps.getD 7 undef = Value.int IntKind.i64 0 := hkept 7 (kept_of (by kernel_rfl))
            have x8 : a.tmps.getD 8 undef = uv := hkept 8 (kept_of (by kernel_rfl))
            have x9 : a.tmps.getD 9 undef = undef := hkept 9 (kept_of (by kernel_rfl))
            have x10 : a.tmps.getD 10 undef = Value.pointer (some { block := X, off := 0 }) := hkept 10 (kept_of (by kernel_rfl))
            have x11 : a.tmps.getD 11 undef = Value.slice (some { block := g, off := o }) L.length c := hkept 11 (kept_of (by kernel_rfl))
            have x12 : a.tmps.getD 12 undef = Value.int IntKind.i64 0 := hkept 12 (kept_of (by kernel_rfl))
            have x13 : a.tmps.getD 13 undef = Value.int IntKind.i64 0 := hkept 13 (kept_of (by kernel_rfl))
            have x14 : a.tmps.getD 14 undef = Value.bool false := hkept 14 (kept_of (by kernel_rfl))
            have x15 : a.tmps.getD 15 undef = undef := hkept 15 (kept_of (by kernel_rfl))
            have x16 : a.tmps.getD 16 undef = Value.agg #[Value.int IntKind.i64 s.i, Value.int IntKind.i64 s.o] := hkept 16 (kept_of (by kernel_rfl))
            have x17 : a.tmps.getD 17 undef = Value.slice (some { block := w2.heap.size, off := 0 }) 1 1 := hkept 17 (kept_of (by kernel_rfl))
            have x18 : a.tmps.getD 18 undef = Value.int IntKind.i64 0 := hkept 18 (kept_of (by kernel_rfl))
            have x19 : a.tmps.getD 19 undef = Value.int IntKind.i64 0 := hkept 19 (kept_of (by kernel_rfl))
            have x20 : a.tmps.getD 20 undef = Value.bool false := hkept 20 (kept_of (by kernel_rfl))
            have x21 : a.tmps.getD 21 undef = undef := hkept 21 (kept_of (by kernel_rfl))
            have x22 : a.tmps.getD 22 undef = Value.slice (some { block := g, off := o }) L.length c := hkept 22 (kept_of (by kernel_rfl))
            have x23 : a.tmps.getD 23 undef = Value.int IntKind.i64 (↑L.length : Int) := hkept 23 (kept_of (by kernel_rfl))
            have x24 : a.tmps.getD 24 undef = Value.int IntKind.i64 (↑k : Int) := hkept 24 (kept_of (by kernel_rfl))
            have x25 : a.tmps.getD 25 undef = Value.bool true := hkept 25 (kept_of (by kernel_rfl))
            have x26 : a.tmps.getD 26 undef = Value.pointer (some { block := g, off := o + k * 5 }) := hkept 26 (kept_of (by kernel_rfl))
            have x27 : a.tmps.getD 27 undef = Value.agg #[Value.int IntKind.i64 x.i, Value.int IntKind.i64 x.o, Value.int IntKind.i64 x.t, Value.int IntKind.i64 x.n, Value.int IntKind.i64 x.d] := hkept 27 (kept_of (by kernel_rfl))
            have x41 : a.tmps.getD 41 undef = undef := hkept 41 (kept_of (by kernel_rfl))
            have x42 : a.tmps.getD 42 undef = undef := hkept 42 (kept_of (by kernel_rfl))
            have ea := act_lit hsz hdf
            simp only [getDs] at ea
            rw [x28, x38, x0, x1, x2, x3, x4, x5, x6, x7, x8, x9, x10, x11, x12, x13, x14, x15, x16, x17, x18, x19, x20, x21, x22, x23, x24, x25, x26, x27, x41, x42] at ea
            rw [ea]
            clear ea x28 x38 x0 x1 x2 x3 x4 x5 x6 x7 x8 x9 x10 x11 x12 x13 x14 x15 x16 x17 x18 x19 x20 x21 x22 x23 x24 x25 x26 x27 x41 x42 hPhi hkept hdf hsz
            generalize a.tmps.getD 29 undef = u29
            generalize a.tmps.getD 30 undef = u30
            generalize a.tmps.getD 31 undef = u31
            generalize a.tmps.getD 32 undef = u32
            generalize a.tmps.getD 33 undef = u33
            generalize a.tmps.getD 34 undef = u34
            generalize a.tmps.getD 35 undef = u35
            generalize a.tmps.getD 36 undef = u36
            generalize a.tmps.getD 37 undef = u37
            generalize a.tmps.getD 39 undef = u39
            generalize a.tmps.getD 40 undef = u40
            clear a
            have hszE : E ≤ w6.heap.size := HSZ.out w6 hI
            have HO6 := Lib.hid (HOX.out w6 hI)
            have G6 := Lib.hid (show Below N w1 w6 from G5.out.trans (hI.mono hNE))
            have hNw6 : N ≤ w6.heap.size := by omega
            obtain ⟨n0, n1⟩ := two_of HH38
            clear hI HO5 G5 z0 z1 z2 z3 z4 s0 s1 HH38
            simp only [List.drop_succ_cons, List.drop_zero]
            go_loud (refine wpList_append_lies _ rfl _ _ 35 rfl N 42 i0 (.agg #[.int .i64 0, .int .i64 0]) 2 16 Tryz.underlying35 HI0.out.1 HI0.out.2.1 HI0.out.2.2.1 HI0.out.2.2.2 rfl (by decide) uv M.length (M.flatMap spV) rfl HO6.out ⟨h38, 0, none⟩ 1 1 (spV (Spn.mk ra rb)) rfl rfl (CellsAt.all (by simp [CellsAt, go_sem, spV, n0, n1])) (by simp [Value.oneCell', spV]) (by omega) (by simp only [maxLen]; omega) (by omega) hNw6 _ rfl ?_)
            intro g' cap' w7 ho hgr hat hlt7
            have G7 := Lib.hid (show Below N w1 w7 from G6.out.grown hgr hNw6 (fun k e => (HO6.out.lt k e).1))
            have HO7 := Lib.hid (show w7.ownsRow N 42 2 (.slice (some ⟨g', 0, none⟩) (M.length + 1) cap') (M ++ [Spn.mk ra rb]).length ((M ++ [Spn.mk ra rb]).flatMap spV) by
              rw [List.flatMap_append, List.length_append]
              simpa using ho)
            rw [← HST.out] at HO7
            clear ho hgr hat hlt7 n0 n1
            go_wp2_with fail
            go_roundw
            case rel => exact ⟨k + 1, _, rfl, by omega, by go_num, HO7, G7⟩
            case measure => simp [intOf]; omega

        · obtain rfl : k = L.length := by omega
          rw [List.take_length] at HO
          obtain ⟨A4, c4, e4, hr4, _⟩ := own_form HO.out
          subst e4
          have HR4 := Lib.hid hr4
          have HIL := Lib.hid (show (preL L s).length ≤ 1000000 by have := HIN.out; omega)
          have hDw : D ≤ wr.heap.size := by omega
          have GW := Lib.hid (GB.out.trans (G.out.mono (Nat.le_of_lt hDN)))
          clear hlt hr4
          go_wp2_with fail
          refine (join_any A4 c4 (preL L s) wr HR4.out HIL.out).mono ?_
          rintro e w6 ⟨⟨v, rfl, ho⟩, hb⟩
          have HO6 := Lib.hid (ownsRow_mono ho hDw)
          have G6 := Lib.hid (GW.out.trans (hb.mono hDw))
          clear ho hb
          go_wp2_with fail
          go_ret2
          exact ⟨⟨_, rfl, HO6.out⟩, G6.out⟩
    · rw [show preP L s = ([], chkS [s]) by unfold preP; rw [if_pos h0, if_neg h1]]
      rw [h0] at HC
      obtain ⟨E, hE⟩ : ∃ E, E = chkS [s] := ⟨_, rfl⟩
      have HE := Lib.hid hE
      rw [← hE] at h1 ⊢
      have h0b : (E == 0) = false := by simpa using h1
      clear hE h0
      go_enter Tryz.func27, Tryz.ntmps27
      go_wp2_with fail
      rw [← HD.out]
      generalize hw1 : World.alloc w _ = w1
      have F1 := Lib.hid (show Held w1 D [.int .i64 s.i, .int .i64 s.o] by subst hw1; exact Held.new HD.out)
      have GB := Lib.hid (show Below D w w1 by subst hw1; rw [HD.out]; exact below_one _ _)
      have H1 := Lib.hid (show PcAt w1 A L from HS.out.ext (HD.out ▸ GB.out))
      clear hw1
      refine (HC.out w1 H1.out).mono ?_
      rintro e w2 ⟨rfl, hb⟩
      obtain ⟨c0, c1⟩ := two_of (F1.out.ext hb)
      have hs2 : D ≤ w2.heap.size := Nat.le_of_lt (F1.out.ext hb).lt
      have G2 := Lib.hid (GB.out.trans (hb.mono (by have := F1.out.lt; omega)))
      clear hb HC
      go_wp2_with fail
      generalize hw3 : World.alloc w2 _ = w3
      have F3 := Lib.hid (show Held w3 w2.heap.size [.int .i64 s.i, .int .i64 s.o] by subst hw3; exact Held.new rfl)
      have G3 := Lib.hid (show Below D w w3 by subst hw3; exact G2.out.alloc hs2 _)
      have hs3 : D ≤ w3.heap.size := by subst hw3; simp; omega
      clear hw3 c0 c1
      refine (chkr_any (some ⟨w2.heap.size, 0, none⟩) 1 [s] w3 (one_row F3.out) (by simp)).mono ?_
      rintro e w4 ⟨rfl, hb⟩
      rw [← HE.out]
      have G4 := Lib.hid (G3.out.trans (hb.mono hs3))
      clear hb F3 G3 hs2 hs3
      go_wp2_with fail
      go_ret2
      exact ⟨⟨_, rfl, World.ownsRow_nil _ _ _ _⟩, G4.out⟩
  · rw [show preP L s = ([], chkP L) by unfold preP; rw [if_neg h0]]
    generalize chkP L = E at *
    have h0b : (E == 0) = false := by simpa using h0
    go_enter Tryz.func27, Tryz.ntmps27
    go_wp2_with fail
    rw [← HD.out]
    generalize hw1 : World.alloc w _ = w1
    have GB := Lib.hid (show Below D w w1 by subst hw1; rw [HD.out]; exact below_one _ _)
    have hs1 : D ≤ w1.heap.size := by subst hw1; simp; have := HD.out; omega
    have H1 := Lib.hid (show PcAt w1 A L from HS.out.ext (HD.out ▸ GB.out))
    clear hw1
    refine (HC.out w1 H1.out).mono ?_
    rintro e w2 ⟨rfl, hb⟩
    have G2 := Lib.hid (GB.out.trans (hb.mono hs1))
    clear hb HC
    go_wp2_with fail
    go_ret2
    exact ⟨⟨_, rfl, World.ownsRow_nil _ _ _ _⟩, G2.out⟩
end Go.Proofs.YteojlodcafogaaaGreatDoor
namespace Go.Proofs.YteojlodcafogaaaGreatDoor
open Go.RowKit Go.Joins
set_option linter.unusedVariables false
set_option linter.unusedSimpArgs false
theorem img_step {L : List Pc} {k : Nat} {x : Pc} (s : Spn) (hk : L[k]? = some x) : imgL (L.take (k + 1)) s = imgL (L.take k) s ++ imgO x s := by
  unfold imgL
  rw [List.take_add_one, hk, List.flatMap_append]
  simp
theorem fst_step {L : List Pc} {k : Nat} {x : Pc} (hk : L[k]? = some x) (h : fstB (L.take k) = false) (hx : x.n ≤ x.d) : fstB (L.take (k + 1)) = false := by
  unfold fstB at *
  rw [List.take_add_one, hk, List.any_append, h]
  simp [hx]
theorem fst_hit {L : List Pc} {k : Nat} {x : Pc} (hk : L[k]? = some x) (hx : x.d < x.n) : fstB L = true :=
  List.any_eq_true.2 ⟨x, List.mem_of_getElem? hk, by simpa using hx⟩
theorem img_ok {L : List Pc} {s : Spn} (h : chkP L = 0) (hs : chkS [s] = 0) (hf : fstB L = false) : imgP L s = (joinS (imgL L s), 0) := by
  unfold imgP; rw [if_pos h, if_pos hs, if_neg (by simp [hf])]
theorem img_fast {L : List Pc} {s : Spn} (h : chkP L = 0) (hs : chkS [s] = 0) (hf : fstB L = true) : imgP L s = ([], 3) := by
  unfold imgP; rw [if_pos h, if_pos hs, if_pos hf]
def PhiImgY (uv : Value) (x : Pc) (s : Spn) (X D : Nat) (ra rb : Int) : Nat → Value → Prop
  | 44, v => v = uv
  | 45, v => v = pcA x
  | 46, v => v = .int .i64 (max x.i s.i)
  | 47, v => v = .int .i64 ra
  | 48, v => v = pcA x
  | 49, v => v = .int .i64 (min x.o s.o)
  | 50, v => v = .int .i64 (min x.o s.o - 1)
  | 51, v => v = .int .i64 rb
  | 52, v => v = .int .i64 (rb + 1)
  | 53, v => v = spA ⟨ra, rb + 1⟩
  | _, _ => True
def PhiImg (uv : Value) (x : Pc) (s : Spn) (X D : Nat) (ra rb : Int) (E : Nat) (sl : Nat) (v : Value) (w : World) : Prop := PhiImgY uv x s X D ra rb sl v ∧ (sl = 54 → ∃ h, v = .slice (some ⟨h, 0, none⟩) 1 1 ∧ E ≤ h ∧ Held w h [.int .i64 ra, .int .i64 (rb + 1)])
theorem PhiImg.ext {uv : Value} {x : Pc} {s : Spn} {X D : Nat} {ra rb : Int} {E : Nat} {w w' : World} (hb : Below w.heap.size w w') : ∀ sl v, PhiImg uv x s X D ra rb E sl v w → PhiImg uv x s X D ra rb E sl v w' := fun sl v h => ⟨h.1, fun e => let ⟨h1, h2, h3, h4⟩ := h.2 e; ⟨h1, h2, h3, h4.ext hb⟩⟩
def PhiImgrY (uv : Value) (x : Pc) (s : Spn) (X D : Nat) (ra rb : Int) : Nat → Value → Prop
  | 59, v => v = uv
  | 60, v => v = pcA x
  | 61, v => v = .int .i64 (max x.i s.i)
  | 62, v => v = .int .i64 ra
  | 63, v => v = pcA x
  | 64, v => v = .int .i64 (min x.o s.o)
  | 65, v => v = .int .i64 (min x.o s.o - 1)
  | 66, v => v = .int .i64 rb
  | 67, v => v = .int .i64 (rb + 1)
  | 68, v => v = spA ⟨ra, rb + 1⟩
  | _, _ => True
def PhiImgr (uv : Value) (x : Pc) (s : Spn) (X D : Nat) (ra rb : Int) (E : Nat) (sl : Nat) (v : Value) (w : World) : Prop := PhiImgrY uv x s X D ra rb sl v ∧ (sl = 69 → ∃ h, v = .slice (some ⟨h, 0, none⟩) 1 1 ∧ E ≤ h ∧ Held w h [.int .i64 ra, .int .i64 (rb + 1)])
theorem PhiImgr.ext {uv : Value} {x : Pc} {s : Spn} {X D : Nat} {ra rb : Int} {E : Nat} {w w' : World} (hb : Below w.heap.size w w') : ∀ sl v, PhiImgr uv x s X D ra rb E sl v w → PhiImgr uv x s X D ra rb E sl v w' := fun sl v h => ⟨h.1, fun e => let ⟨h1, h2, h3, h4⟩ := h.2 e; ⟨h1, h2, h3, h4.ext hb⟩⟩
set_option maxRecDepth 100000 in
set_option maxHeartbeats 4000000 in
theorem img_any (A : Option Addr) (c : Nat) (L : List Pc) (s : Spn) (w : World) (hs : PcAt w A L) (hf : Frp L) (hl : L.length ≤ 1000000000) :
    Calls Tryz.prog 28 #[.slice A L.length c, spA s] w (RetP (imgP L s) w) := by
  have HS := Lib.hid hs
  have HC := Lib.hid (fun (W : World) (h : PcAt W A L) => cspan_any A c L s W h hf hl)
  clear hs hf
  unfold RetP
  obtain ⟨D, hD⟩ : ∃ D, D = w.heap.size := ⟨_, rfl⟩
  have HD := Lib.hid hD
  rw [← hD]
  clear hD
  by_cases h0 : chkP L = 0
  · by_cases h1 : chkS [s] = 0
    · obtain ⟨R, hR⟩ : ∃ R, R = imgP L s := ⟨_, rfl⟩
      have HOK := Lib.hid (fun hf => hR.trans (img_ok h0 h1 hf))
      have HNO := Lib.hid (fun hf => hR.trans (img_fast h0 h1 hf))
      have HN := Lib.hid (fun hf => (img_nor h0 h1 hf).trans hR.symm)
      have HIN := Lib.hid (img_in h0 s).1
      have HG := Lib.hid (chkP_ok.1 h0).2.1
      rw [← hR]
      clear hR
      rw [if_pos h0, h1] at HC
      have HSB := Lib.hid (one_bd h1)
      obtain ⟨i0, hi, hz0, hz1, hz2⟩ := info_parts infoS
      have HI0 := Lib.hid (And.intro hi (And.intro hz0 (And.intro hz1 hz2)))
      have hl6 := (chkP_ok.1 h0).1
      clear hi hz0 hz1 hz2 h0 h1
      go_enter Tryz.func28, Tryz.ntmps28
      go_wp2_with fail
      rw [← HD.out]
      generalize hw1 : World.alloc w _ = w1
      have F1 := Lib.hid (show Held w1 D [.int .i64 s.i, .int .i64 s.o] by subst hw1; exact Held.new HD.out)
      have GB := Lib.hid (show Below D w w1 by subst hw1; rw [HD.out]; exact below_one _ _)
      have H1 := Lib.hid (show PcAt w1 A L from HS.out.ext (HD.out ▸ GB.out))
      obtain ⟨N, hN⟩ : ∃ N, N = w1.heap.size := ⟨_, rfl⟩
      have HNN := Lib.hid hN
      have hDN : D < N := by rw [hN]; exact F1.out.lt
      clear hw1 hN
      refine (HC.out w1 H1.out).mono ?_
      rintro e w2 ⟨rfl, hb⟩
      have G2 := Lib.hid (show Below N w1 w2 from HNN.out ▸ hb)
      clear hb HC
      go_wp2_with fail

      go_loopw [7, 20] (fun ov i wr => ∃ (k : Nat) (uv : Value), uv = ov ∧ k ≤ L.length ∧ i = .int .i64 k ∧ Hid (wr.ownsRow N 42 2 uv (imgL (L.take k) s).length ((imgL (L.take k) s).flatMap spV)) ∧ Hid (fstB (L.take k) = false) ∧ Hid (Below N w1 wr)) (fun _ i _ => L.length - (intOf i).toNat)
      case atStart => exact ⟨0, _, rfl, by omega, rfl, Lib.hid (World.ownsRow_nil _ _ _ _), Lib.hid rfl, G2⟩
      case round =>
        obtain ⟨k, uv, rfl, hk, rfl, HO, HFB, G⟩ := hrel
        have hNw : N ≤ wr.heap.size := by have := G.out.size; have := HNN.out; omega
        by_cases hlt : k < L.length
        · have hlt2 : (k : Int) < (L.length : Int) := by omega
          obtain ⟨x, hx⟩ : ∃ x, L[k]? = some x := ⟨_, List.getElem?_eq_getElem hlt⟩
          have HRw := H1.out.ext (HNN.out ▸ G.out)
          obtain ⟨g, o, rfl⟩ := PcAt.some HRw hx
          obtain ⟨q0, q1, q2, q3, q4⟩ := PcAt.get HRw hx
          have HX := Lib.hid hx
          have HST := Lib.hid (img_step s hx)
          have HGX := Lib.hid (HG.out x (List.mem_of_getElem? hx))
          have hm : (imgL (L.take k) s).length ≤ 64 := by have := imgL_len (L.take k) s; rw [List.length_take] at this; omega
          generalize imgL (L.take k) s = M at *
          clear HRw hx
          have GX := Lib.hid (GB.out.trans (G.out.mono (Nat.le_of_lt hDN)))
          by_cases hsp : x.d < x.n
          · obtain rfl : R = ([], 3) := HNO.out (fst_hit HX.out hsp)
            have hDw : D ≤ wr.heap.size := by omega
            go_wp2_with fail
            go_ret2
            exact ⟨⟨_, rfl, World.ownsRow_nil _ _ _ _⟩, GX.out.alloc hDw _⟩
          have HF2 := Lib.hid (fst_step HX.out HFB.out (by omega))
          clear GX
          have hO : imgO x s = if max x.i s.i < min x.o s.o then [⟨ledP x (max x.i s.i), ledP x (min x.o s.o - 1) + 1⟩] else [] := rfl
          go_wp2_with fail
          generalize hw5 : World.alloc wr _ = w5
          have F5 := Lib.hid (show Held w5 wr.heap.size (pcV x) by subst hw5; exact Held.new rfl)
          obtain ⟨z0, z1, z2, z3, z4⟩ := five_of F5.out
          have G5 := Lib.hid (show Below N w1 w5 by subst hw5; exact G.out.alloc hNw _)
          obtain ⟨s0, s1⟩ := two_of (F1.out.below G5.out hDN)
          have HO5 := Lib.hid (show w5.ownsRow N 42 2 uv M.length (M.flatMap spV) by subst hw5; exact HO.out.alloc _)
          clear hw5 q0 q1 q2 q3 q4 HO G
          generalize hX : wr.heap.size = X at *
          clear hX
          go_quiet (fail)
          have F6 := Lib.hid (F5.out.drewN nq)
          have G6 := Lib.hid (below_drewN G5.out nq)
          have HO6 := Lib.hid (show (w5.drewN nq).ownsRow N 42 2 uv M.length (M.flatMap spV) from HO5.out)
          generalize w5.drewN nq = w6 at *
          have hNw6 : N ≤ w6.heap.size := by have := G6.out.size; have := HNN.out; omega
          clear F5 G5 HO5 z0 z1 z2 z3 z4 s0 s1
          by_cases hin : max x.i s.i < min x.o s.o
          · rw [if_pos hin] at hO
            obtain ⟨a1, a2, a3, a4, a5, a6, a7⟩ := sgl_ok.1 HGX.out
            have a3 : x.o ≤ 5184000 := a3
            have a6 : x.t < 5184000 := a6
            obtain ⟨ra, hra⟩ : ∃ a, a = ledP x (max x.i s.i) := ⟨_, rfl⟩
            obtain ⟨rb, hrb⟩ : ∃ a, a = ledP x (min x.o s.o - 1) := ⟨_, rfl⟩
            have r1 := led_in HGX.out (x := min x.o s.o - 1) (by omega) (by omega)
            have HFA := Lib.hid (fun W => to_any x (max x.i s.i) W a4 (by omega) (by omega) (by omega) (by omega) (by omega) (by omega))
            have HFB2 := Lib.hid (fun W => to_any x (min x.o s.o - 1) W a4 (by omega) (by omega) (by omega) (by omega) (by omega) (by omega))
            rw [← hra] at HFA hO
            rw [← hrb] at HFB2 hO r1
            rw [hO] at HST
            have hrb2 : rb < 5184000 := r1.2
            have hq1 : wrap64 (min x.o s.o - 1) = min x.o s.o - 1 := by go_arith
            have hq2 : IntKind.i64.wrap (min x.o s.o - 1) = min x.o s.o - 1 := by rw [IntKind.wrap_i64]; omega
            have hr1 : wrap64 (rb + 1) = rb + 1 := by go_arith
            have hr2 : IntKind.i64.wrap (rb + 1) = rb + 1 := by rw [IntKind.wrap_i64]; omega
            clear a7 a4 r1 hra hrb hO
            obtain ⟨z0, z1, z2, z3, z4⟩ := five_of F6.out
            go_wp2_with fail
            obtain ⟨E, hE⟩ : ∃ E, E = w6.heap.size := ⟨_, rfl⟩
            have hNE : N ≤ E := by rw [hE]; exact hNw6
            have hXE : X < E := by rw [hE]; exact F6.out.lt
            have HOX := Lib.hid (fun W (hW : Below E w6 W) => show W.ownsRow N 42 2 uv M.length (M.flatMap spV) from ownsRow_below (B := E) HO6.out hW (Nat.le_of_eq hE.symm))
            have HSZ := Lib.hid (fun W (hW : Below E w6 W) => show E ≤ W.heap.size by have := hW.size; omega)
            clear hE
            refine wp_region_spec_tail 11 (by kernel_rfl) (fun w' => Below E w6 w') (PhiImg uv x s X D ra rb E) 61 rfl (by kernel_rfl) (by kernel_rfl) (by kernel_rfl) (by kernel_rfl) (by kernel_rfl) (Below.refl _ _).drew ?hops ?hend
            case hops =>
              refine ⟨?o0, ?o1, ?o2, ?o3, ?o4, ?o5, ?o6, ?o7, ?o8, ?o9, ?o10, trivial⟩
              case o0 =>
                intro ev w8 hI hdep hfree
                have a7 : ev 7 = uv := hfree 7 (by kernel_rfl)
                clear hdep hfree
                try dsimp only
                simp [OpRuns, execOp, evalOf, a7, go_sem]
                first | exact ⟨hI, rfl, fun e => absurd e (by decide)⟩ | exact ⟨hI, rfl⟩ | exact hI
              case o1 =>
                intro ev w8 hI hdep hfree
                have a9 : ev 9 = Value.pointer (some { block := X, off := 0 }) := hfree 9 (by kernel_rfl)
                clear hdep hfree
                have y0 : w8.cell? ⟨X, 0, none⟩ = some (.int .i64 x.i) := (hI.cell (p := ⟨X, 0, none⟩) hXE).trans z0
                have y1 : w8.cell? ⟨X, 1, none⟩ = some (.int .i64 x.o) := (hI.cell (p := ⟨X, 1, none⟩) hXE).trans z1
                have y2 : w8.cell? ⟨X, 2, none⟩ = some (.int .i64 x.t) := (hI.cell (p := ⟨X, 2, none⟩) hXE).trans z2
                have y3 : w8.cell? ⟨X, 3, none⟩ = some (.int .i64 x.n) := (hI.cell (p := ⟨X, 3, none⟩) hXE).trans z3
                have y4 : w8.cell? ⟨X, 4, none⟩ = some (.int .i64 x.d) := (hI.cell (p := ⟨X, 4, none⟩) hXE).trans z4
                try dsimp only
                simp [OpRuns, execOp, evalOf, a9, y0, y1, y2, y3, y4, go_sem]
                first | exact ⟨hI, rfl, fun e => absurd e (by decide)⟩ | exact ⟨hI, rfl⟩ | exact hI
              case o2 =>
                intro ev w8 hI hdep hfree
                have a10 : ev 10 = Value.int IntKind.i64 (max x.i s.i) := hfree 10 (by kernel_rfl)
                clear hdep hfree
                try dsimp only
                simp [OpRuns, execOp, evalOf, a10, go_sem]
                first | exact ⟨hI, rfl, fun e => absurd e (by decide)⟩ | exact ⟨hI, rfl⟩ | exact hI
              case o3 =>
                intro ev w8 hI hdep hfree
                have a45 : ev 45 = pcA x := (hdep 1 45 (by kernel_rfl) (by kernel_rfl)).1
                have a46 : ev 46 = .int .i64 (max x.i s.i) := (hdep 2 46 (by kernel_rfl) (by kernel_rfl)).1
                clear hdep hfree
                try dsimp only
                refine runs_call (f := 46) (args := #[pcA x, .int .i64 (max x.i s.i)]) (by simp [execOp, evalOf, resolve, invoke, a45, a46, go_sem]) ((HFA.out w8).mono ?_)
                rintro e w9 ⟨he, hb⟩
                exact ⟨_, he, hI.trans (hb.mono (HSZ.out w8 hI)), PhiImg.ext hb, fun d hd => by cases hd; exact ⟨rfl, fun e => absurd e (by decide)⟩⟩
              case o4 =>
                intro ev w8 hI hdep hfree
                have a9 : ev 9 = Value.pointer (some { block := X, off := 0 }) := hfree 9 (by kernel_rfl)
                clear hdep hfree
                have y0 : w8.cell? ⟨X, 0, none⟩ = some (.int .i64 x.i) := (hI.cell (p := ⟨X, 0, none⟩) hXE).trans z0
                have y1 : w8.cell? ⟨X, 1, none⟩ = some (.int .i64 x.o) := (hI.cell (p := ⟨X, 1, none⟩) hXE).trans z1
                have y2 : w8.cell? ⟨X, 2, none⟩ = some (.int .i64 x.t) := (hI.cell (p := ⟨X, 2, none⟩) hXE).trans z2
                have y3 : w8.cell? ⟨X, 3, none⟩ = some (.int .i64 x.n) := (hI.cell (p := ⟨X, 3, none⟩) hXE).trans z3
                have y4 : w8.cell? ⟨X, 4, none⟩ = some (.int .i64 x.d) := (hI.cell (p := ⟨X, 4, none⟩) hXE).trans z4
                try dsimp only
                simp [OpRuns, execOp, evalOf, a9, y0, y1, y2, y3, y4, go_sem]
                first | exact ⟨hI, rfl, fun e => absurd e (by decide)⟩ | exact ⟨hI, rfl⟩ | exact hI
              case o5 =>
                intro ev w8 hI hdep hfree
                have a11 : ev 11 = Value.int IntKind.i64 (min x.o s.o) := hfree 11 (by kernel_rfl)
                clear hdep hfree
                try dsimp only
                simp [OpRuns, execOp, evalOf, a11, go_sem]
                first | exact ⟨hI, rfl, fun e => absurd e (by decide)⟩ | exact ⟨hI, rfl⟩ | exact hI
              case o6 =>
                intro ev w8 hI hdep hfree
                have a49 : ev 49 = .int .i64 (min x.o s.o) := (hdep 5 49 (by kernel_rfl) (by kernel_rfl)).1
                clear hdep hfree
                try dsimp only
                simp [OpRuns, execOp, evalOf, a49, hq1, hq2, go_sem]
                first | exact ⟨hI, rfl, fun e => absurd e (by decide)⟩ | exact ⟨hI, rfl⟩ | exact hI
              case o7 =>
                intro ev w8 hI hdep hfree
                have a48 : ev 48 = pcA x := (hdep 4 48 (by kernel_rfl) (by kernel_rfl)).1
                have a50 : ev 50 = .int .i64 (min x.o s.o - 1) := (hdep 6 50 (by kernel_rfl) (by kernel_rfl)).1
                clear hdep hfree
                try dsimp only
                refine runs_call (f := 46) (args := #[pcA x, .int .i64 (min x.o s.o - 1)]) (by simp [execOp, evalOf, resolve, invoke, a48, a50, go_sem]) ((HFB2.out w8).mono ?_)
                rintro e w9 ⟨he, hb⟩
                exact ⟨_, he, hI.trans (hb.mono (HSZ.out w8 hI)), PhiImg.ext hb, fun d hd => by cases hd; exact ⟨rfl, fun e => absurd e (by decide)⟩⟩
              case o8 =>
                intro ev w8 hI hdep hfree
                have a51 : ev 51 = .int .i64 rb := (hdep 7 51 (by kernel_rfl) (by kernel_rfl)).1
                clear hdep hfree
                try dsimp only
                simp [OpRuns, execOp, evalOf, a51, hr1, hr2, go_sem]
                first | exact ⟨hI, rfl, fun e => absurd e (by decide)⟩ | exact ⟨hI, rfl⟩ | exact hI
              case o9 =>
                intro ev w8 hI hdep hfree
                have a47 : ev 47 = .int .i64 ra := (hdep 3 47 (by kernel_rfl) (by kernel_rfl)).1
                have a52 : ev 52 = .int .i64 (rb + 1) := (hdep 8 52 (by kernel_rfl) (by kernel_rfl)).1
                clear hdep hfree
                try dsimp only
                simp [OpRuns, execOp, evalOf, a47, a52, go_sem]
                first | exact ⟨hI, rfl, fun e => absurd e (by decide)⟩ | exact ⟨hI, rfl⟩ | exact hI
              case o10 =>
                intro ev w8 hI hdep hfree
                have a53 : ev 53 = spA ⟨ra, rb + 1⟩ := (hdep 9 53 (by kernel_rfl) (by kernel_rfl)).1
                clear hdep hfree
                try dsimp only
                simp [OpRuns, execOp, evalOf, a53, go_sem]
                exact ⟨hI.alloc (HSZ.out w8 hI) _, PhiImg.ext (below_one _ _), trivial, fun _ => ⟨_, rfl, HSZ.out w8 hI, Held.new rfl⟩⟩
            case hend =>
              intro a w8 hdf hsz hI hPhi hkept
              replace hdf : a.defers = [] := hdf
              replace hsz : a.tmps.size = 61 := hsz
              have x44 : a.tmps.getD 44 undef = uv := (hPhi 0 44 (by omega) (by kernel_rfl)).1
              obtain ⟨h54, x54, hE54, HH54⟩ := (hPhi 10 54 (by omega) (by kernel_rfl)).2 rfl
              have x0 : a.tmps.getD 0 undef = Value.slice (some { block := g, off := o }) L.length c := hkept 0 (kept_of (by kernel_rfl))
              have x1 : a.tmps.getD 1 undef = spA s := hkept 1 (kept_of (by kernel_rfl))
              have x2 : a.tmps.getD 2 undef = undef := hkept 2 (kept_of (by kernel_rfl))
              have x3 : a.tmps.getD 3 undef = Value.pointer (some { block := D, off := 0 }) := hkept 3 (kept_of (by kernel_rfl))
              have x4 : a.tmps.getD 4 undef = u4 := hkept 4 (kept_of (by kernel_rfl))
              have x5 : a.tmps.getD 5 undef = u5 := hkept 5 (kept_of (by kernel_rfl))
              have x6 : a.tmps.getD 6 undef = Value.int IntKind.i64 0 := hkept 6 (kept_of (by kernel_rfl))
              have x7 : a.tmps.getD 7 undef = uv := hkept 7 (kept_of (by kernel_rfl))
              have x8 : a.tmps.getD 8 undef = undef := hkept 8 (kept_of (by kernel_rfl))
              have x9 : a.tmps.getD 9 undef = Value.pointer (some { block := X, off := 0 }) := hkept 9 (kept_of (by kernel_rfl))
              have x10 : a.tmps.getD 10 undef = Value.int IntKind.i64 (max x.i s.i) := hkept 10 (kept_of (by kernel_rfl))
              have x11 : a.tmps.getD 11 undef = Value.int IntKind.i64 (min x.o s.o) := hkept 11 (kept_of (by kernel_rfl))
              have x12 : a.tmps.getD 12 undef = Value.slice (some { block := g, off := o }) L.length c := hkept 12 (kept_of (by kernel_rfl))
              have x13 : a.tmps.getD 13 undef = Value.agg #[Value.int IntKind.i64 s.i, Value.int IntKind.i64 s.o] := hkept 13 (kept_of (by kernel_rfl))
              have x14 : a.tmps.getD 14 undef = Value.int IntKind.i64 0 := hkept 14 (kept_of (by kernel_rfl))
              have x15 : a.tmps.getD 15 undef = Value.int IntKind.i64 0 := hkept 15 (kept_of (by kernel_rfl))
              have x16 : a.tmps.getD 16 undef = Value.bool false := hkept 16 (kept_of (by kernel_rfl))
              have x17 : a.tmps.getD 17 undef = undef := hkept 17 (kept_of (by kernel_rfl))
              have x18 : a.tmps.getD 18 undef = Value.slice (some { block := g, off := o }) L.length c := hkept 18 (kept_of (by kernel_rfl))
              have x19 : a.tmps.getD 19 undef = Value.int IntKind.i64 (↑L.length : Int) := hkept 19 (kept_of (by kernel_rfl))
              have x20 : a.tmps.getD 20 undef = Value.int IntKind.i64 (↑k : Int) := hkept 20 (kept_of (by kernel_rfl))
              have x21 : a.tmps.getD 21 undef = Value.bool true := hkept 21 (kept_of (by kernel_rfl))
              have x22 : a.tmps.getD 22 undef = Value.pointer (some { block := g, off := o + k * 5 }) := hkept 22 (kept_of (by kernel_rfl))
              have x23 : a.tmps.getD 23 undef = Value.agg #[Value.int IntKind.i64 x.i, Value.int IntKind.i64 x.o, Value.int IntKind.i64 x.t, Value.int IntKind.i64 x.n, Value.int IntKind.i64 x.d] := hkept 23 (kept_of (by kernel_rfl))
              have x24 : a.tmps.getD 24 undef = Value.pointer (some { block := X, off := 3 }) := hkept 24 (kept_of (by kernel_rfl))
              have x25 : a.tmps.getD 25 undef = Value.pointer (some { block := X, off := 3 }) := hkept 25 (kept_of (by kernel_rfl))
              have x26 : a.tmps.getD 26 undef = Value.int IntKind.i64 x.n := hkept 26 (kept_of (by kernel_rfl))
              have x27 : a.tmps.getD 27 undef = Value.pointer (some { block := X, off := 3 }) := hkept 27 (kept_of (by kernel_rfl))
              have x28 : a.tmps.getD 28 undef = Value.pointer (some { block := X, off := 4 }) := hkept 28 (kept_of (by kernel_rfl))
              have x29 : a.tmps.getD 29 undef = Value.int IntKind.i64 x.d := hkept 29 (kept_of (by kernel_rfl))
              have x30 : a.tmps.getD 30 undef = Value.bool false := hkept 30 (kept_of (by kernel_rfl))
              have x31 : a.tmps.getD 31 undef = Value.pointer (some { block := X, off := 0 }) := hkept 31 (kept_of (by kernel_rfl))
              have x32 : a.tmps.getD 32 undef = Value.int IntKind.i64 x.i := hkept 32 (kept_of (by kernel_rfl))
              have x33 : a.tmps.getD 33 undef = Value.pointer (some { block := D, off := 0 }) := hkept 33 (kept_of (by kernel_rfl))
              have x34 : a.tmps.getD 34 undef = Value.int IntKind.i64 s.i := hkept 34 (kept_of (by kernel_rfl))
              have x35 : a.tmps.getD 35 undef = Value.int IntKind.i64 (max x.i s.i) := hkept 35 (kept_of (by kernel_rfl))
              have x36 : a.tmps.getD 36 undef = Value.pointer (some { block := X, off := 1 }) := hkept 36 (kept_of (by kernel_rfl))
              have x37 : a.tmps.getD 37 undef = Value.int IntKind.i64 x.o := hkept 37 (kept_of (by kernel_rfl))
              have x38 : a.tmps.getD 38 undef = Value.pointer (some { block := D, off := 1 }) := hkept 38 (kept_of (by kernel_rfl))
              have x39 : a.tmps.getD 39 undef = Value.int IntKind.i64 s.o := hkept 39 (kept_of (by kernel_rfl))
              have x40 : a.tmps.getD 40 undef = Value.int IntKind.i64 (min x.o s.o) := hkept 40 (kept_of (by kernel_rfl))
              have x41 : a.tmps.getD 41 undef = Value.int IntKind.i64 (max x.i s.i) := hkept 41 (kept_of (by kernel_rfl))
              have x42 : a.tmps.getD 42 undef = Value.int IntKind.i64 (min x.o s.o) := hkept 42 (kept_of (by kernel_rfl))
              have x43 : a.tmps.getD 43 undef = Value.bool true := hkept 43 (kept_of (by kernel_rfl))
              have x55 : a.tmps.getD 55 undef = u55 := hkept 55 (kept_of (by kernel_rfl))
              have x56 : a.tmps.getD 56 undef = u56 := hkept 56 (kept_of (by kernel_rfl))
              have x57 : a.tmps.getD 57 undef = undef := hkept 57 (kept_of (by kernel_rfl))
              have x58 : a.tmps.getD 58 undef = undef := hkept 58 (kept_of (by kernel_rfl))
              have x59 : a.tmps.getD 59 undef = undef := hkept 59 (kept_of (by kernel_rfl))
              have x60 : a.tmps.getD 60 undef = undef := hkept 60 (kept_of (by kernel_rfl))
              have ea := act_lit hsz hdf
              simp only [getDs] at ea
              rw [x44, x54, x0, x1, x2, x3, x4, x5, x6, x7, x8, x9, x10, x11, x12, x13, x14, x15, x16, x17, x18, x19, x20, x21, x22, x23, x24, x25, x26, x27, x28, x29, x30, x31, x32, x33, x34, x35, x36, x37, x38, x39, x40, x41, x42, x43, x55, x56, x57, x58, x59, x60] at ea
              rw [ea]
              clear ea x44 x54 x0 x1 x2 x3 x4 x5 x6 x7 x8 x9 x10 x11 x12 x13 x14 x15 x16 x17 x18 x19 x20 x21 x22 x23 x24 x25 x26 x27 x28 x29 x30 x31 x32 x33 x34 x35 x36 x37 x38 x39 x40 x41 x42 x43 x55 x56 x57 x58 x59 x60 hPhi hkept hdf hsz
              generalize a.tmps.getD 45 undef = u45
              generalize a.tmps.getD 46 undef = u46
              generalize a.tmps.getD 47 undef = u47
              generalize a.tmps.getD 48 undef = u48
              generalize a.tmps.getD 49 undef = u49
              generalize a.tmps.getD 50 undef = u50
              generalize a.tmps.getD 51 undef = u51
              generalize a.tmps.getD 52 undef = u52
              generalize a.tmps.getD 53 undef = u53
              clear a
              have hszE : E ≤ w8.heap.size := HSZ.out w8 hI
              have HO8 := Lib.hid (HOX.out w8 hI)
              have G8 := Lib.hid (show Below N w1 w8 from G6.out.trans (hI.mono hNE))
              have hNw8 : N ≤ w8.heap.size := by omega
              obtain ⟨n0, n1⟩ := two_of HH54
              clear hI HO6 G6 z0 z1 z2 z3 z4 HH54
              simp only [List.drop_succ_cons, List.drop_zero]
              go_loud (refine wpList_append_lies _ rfl _ _ 35 rfl N 42 i0 (.agg #[.int .i64 0, .int .i64 0]) 2 16 Tryz.underlying35 HI0.out.1 HI0.out.2.1 HI0.out.2.2.1 HI0.out.2.2.2 rfl (by decide) uv M.length (M.flatMap spV) rfl HO8.out ⟨h54, 0, none⟩ 1 1 (spV (Spn.mk ra (rb + 1))) rfl rfl (CellsAt.all (by simp [CellsAt, go_sem, spV, n0, n1])) (by simp [Value.oneCell', spV]) (by omega) (by simp only [maxLen]; omega) (by omega) hNw8 _ rfl ?_)
              intro g' cap' w7 ho hgr hat hlt7
              have G7 := Lib.hid (show Below N w1 w7 from G8.out.grown hgr hNw8 (fun k e => (HO8.out.lt k e).1))
              have HO7 := Lib.hid (show w7.ownsRow N 42 2 (.slice (some ⟨g', 0, none⟩) (M.length + 1) cap') (M ++ [Spn.mk ra (rb + 1)]).length ((M ++ [Spn.mk ra (rb + 1)]).flatMap spV) by
                rw [List.flatMap_append, List.length_append]
                simpa using ho)
              rw [← HST.out] at HO7
              clear ho hgr hat hlt7 n0 n1
              go_wp2_with fail
              go_roundw
              case rel =>
                first
                  | exact ⟨k + 1, _, rfl, by omega, by go_num, HO7, HF2, G7⟩
                  | (repeat apply Exists.intro); refine ⟨?_, rfl⟩; exact ⟨k + 1, _, rfl, by omega, by go_num, HO7, HF2, G7⟩
              case measure => simp [intOf]; omega

          · rw [if_neg hin] at hO
            rw [hO, List.append_nil] at HST
            clear hO
            go_wp2_with fail
            rw [← HST.out] at HO6
            go_roundw
            case rel =>
              first
                | exact ⟨k + 1, _, rfl, by omega, by go_num, HO6, HF2, G6⟩
                | (repeat apply Exists.intro); refine ⟨?_, rfl⟩; exact ⟨k + 1, _, rfl, by omega, by go_num, HO6, HF2, G6⟩
            case measure => simp [intOf]; omega
        · obtain rfl : k = L.length := by omega
          rw [List.take_length] at HO
          have hfb : fstB L = false := by have := HFB.out; rw [List.take_length] at this; exact this
          obtain ⟨A4, c4, e4, hr4, _⟩ := own_form HO.out
          subst e4
          have HR4 := Lib.hid hr4
          have HIL := Lib.hid (show (imgL L s).length ≤ 1000000 by have := HIN.out; omega)
          have hDw : D ≤ wr.heap.size := by omega
          have GW := Lib.hid (GB.out.trans (G.out.mono (Nat.le_of_lt hDN)))
          have HN2 := Lib.hid (HN.out hfb)
          obtain rfl : R = (joinS (imgL L s), 0) := HOK.out hfb
          clear hlt hr4 hfb
          go_wp2_with fail
          refine (norm_any A4 c4 (imgL L s) wr HR4.out HIL.out).mono ?_
          rw [HN2.out]
          rintro e w7 ⟨⟨v, rfl, ho⟩, hb⟩
          have HO7 := Lib.hid (ownsRow_mono ho hDw)
          have G7 := Lib.hid (GW.out.trans (hb.mono hDw))
          clear ho hb
          go_wp2_with fail
          go_ret2
          exact ⟨⟨_, rfl, HO7.out⟩, G7.out⟩
    · rw [show imgP L s = ([], chkS [s]) by unfold imgP; rw [if_pos h0, if_neg h1]]
      rw [if_pos h0] at HC
      generalize chkS [s] = E at *
      have h0b : (E == 0) = false := by simpa using h1
      go_enter Tryz.func28, Tryz.ntmps28
      go_wp2_with fail
      rw [← HD.out]
      generalize hw1 : World.alloc w _ = w1
      have GB := Lib.hid (show Below D w w1 by subst hw1; rw [HD.out]; exact below_one _ _)
      have hs1 : D ≤ w1.heap.size := by subst hw1; simp; have := HD.out; omega
      have H1 := Lib.hid (show PcAt w1 A L from HS.out.ext (HD.out ▸ GB.out))
      clear hw1
      refine (HC.out w1 H1.out).mono ?_
      rintro e w2 ⟨rfl, hb⟩
      have G2 := Lib.hid (GB.out.trans (hb.mono hs1))
      clear hb HC
      go_wp2_with fail
      go_ret2
      exact ⟨⟨_, rfl, World.ownsRow_nil _ _ _ _⟩, G2.out⟩
  · rw [show imgP L s = ([], chkP L) by unfold imgP; rw [if_neg h0]]
    rw [if_neg h0] at HC
    generalize chkP L = E at *
    have h0b : (E == 0) = false := by simpa using h0
    go_enter Tryz.func28, Tryz.ntmps28
    go_wp2_with fail
    rw [← HD.out]
    generalize hw1 : World.alloc w _ = w1
    have GB := Lib.hid (show Below D w w1 by subst hw1; rw [HD.out]; exact below_one _ _)
    have hs1 : D ≤ w1.heap.size := by subst hw1; simp; have := HD.out; omega
    have H1 := Lib.hid (show PcAt w1 A L from HS.out.ext (HD.out ▸ GB.out))
    clear hw1
    refine (HC.out w1 H1.out).mono ?_
    rintro e w2 ⟨rfl, hb⟩
    have G2 := Lib.hid (GB.out.trans (hb.mono hs1))
    clear hb HC
    go_wp2_with fail
    go_ret2
    exact ⟨⟨_, rfl, World.ownsRow_nil _ _ _ _⟩, G2.out⟩
set_option maxRecDepth 100000 in
set_option maxHeartbeats 4000000 in
theorem imgr_any (A : Option Addr) (c : Nat) (L : List Pc) (s : Spn) (w : World) (hs : PcAt w A L) (hf : Frp L) (hl : L.length ≤ 1000000000) :
    Calls Tryz.prog 29 #[.slice A L.length c, spA s] w (RetP (imgP L s) w) := by
  have HS := Lib.hid hs
  have HC := Lib.hid (fun (W : World) (h : PcAt W A L) => chkpr_any A c L W h hf hl)
  clear hs hf
  unfold RetP
  obtain ⟨D, hD⟩ : ∃ D, D = w.heap.size := ⟨_, rfl⟩
  have HD := Lib.hid hD
  rw [← hD]
  clear hD
  by_cases h0 : chkP L = 0
  · by_cases h1 : chkS [s] = 0
    · obtain ⟨R, hR⟩ : ∃ R, R = imgP L s := ⟨_, rfl⟩
      have HOK := Lib.hid (fun hf => hR.trans (img_ok h0 h1 hf))
      have HNO := Lib.hid (fun hf => hR.trans (img_fast h0 h1 hf))
      have HN := Lib.hid (fun hf => (img_nor h0 h1 hf).trans hR.symm)
      have HIN := Lib.hid (img_in h0 s).1
      have HG := Lib.hid (chkP_ok.1 h0).2.1
      rw [← hR]
      clear hR
      rw [h0] at HC
      have HE := Lib.hid h1
      have HSB := Lib.hid (one_bd h1)
      obtain ⟨i0, hi, hz0, hz1, hz2⟩ := info_parts infoS
      have HI0 := Lib.hid (And.intro hi (And.intro hz0 (And.intro hz1 hz2)))
      have hl6 := (chkP_ok.1 h0).1
      clear hi hz0 hz1 hz2 h0 h1
      go_enter Tryz.func29, Tryz.ntmps29
      go_wp2_with fail
      rw [← HD.out]
      generalize hw1 : World.alloc w _ = w1
      have F1 := Lib.hid (show Held w1 D [.int .i64 s.i, .int .i64 s.o] by subst hw1; exact Held.new HD.out)
      have GB := Lib.hid (show Below D w w1 by subst hw1; rw [HD.out]; exact below_one _ _)
      have H1 := Lib.hid (show PcAt w1 A L from HS.out.ext (HD.out ▸ GB.out))
      obtain ⟨N, hN⟩ : ∃ N, N = w1.heap.size := ⟨_, rfl⟩
      have HNN := Lib.hid hN
      have hDN : D < N := by rw [hN]; exact F1.out.lt
      clear hw1 hN
      refine (HC.out w1 H1.out).mono ?_
      rintro e w2 ⟨rfl, hb⟩
      have G2 := Lib.hid (show Below N w1 w2 from HNN.out ▸ hb)
      obtain ⟨c0, c1⟩ := two_of (F1.out.ext hb)
      clear hb HC
      have hs2 : N ≤ w2.heap.size := by have := G2.out.size; have := HNN.out; omega
      go_wp2_with fail
      generalize hw3 : World.alloc w2 _ = w3
      have F3 := Lib.hid (show Held w3 w2.heap.size [.int .i64 s.i, .int .i64 s.o] by subst hw3; exact Held.new rfl)
      have G3 := Lib.hid (show Below N w1 w3 by subst hw3; exact G2.out.alloc hs2 _)
      have hs3 : N ≤ w3.heap.size := by subst hw3; simp; omega
      clear hw3 c0 c1
      refine (chkr_any (some ⟨w2.heap.size, 0, none⟩) 1 [s] w3 (one_row F3.out) (by simp)).mono ?_
      rintro e w4 ⟨rfl, hb⟩
      rw [HE.out]
      have G2 := Lib.hid (G3.out.trans (hb.mono hs3))
      clear hb F3 G3 hs2 hs3
      go_wp2_with fail
      go_loopw [28] (fun i wr => ∃ k : Nat, k ≤ L.length ∧ i = .int .i64 k ∧ Hid (fstB (L.take k) = false) ∧ Hid (Below N w1 wr)) (fun i _ => L.length - (intOf i).toNat)
      case atStart => exact ⟨0, by omega, rfl, Lib.hid rfl, G2⟩
      case round =>
        obtain ⟨k, hk, rfl, HFB, G⟩ := hrel
        have hNw : N ≤ wr.heap.size := by have := G.out.size; have := HNN.out; omega
        by_cases hlt : k < L.length
        · have hlt2 : (k : Int) < (L.length : Int) := by omega
          obtain ⟨x, hx⟩ : ∃ x, L[k]? = some x := ⟨_, List.getElem?_eq_getElem hlt⟩
          have HRw := H1.out.ext (HNN.out ▸ G.out)
          obtain ⟨g, o, rfl⟩ := PcAt.some HRw hx
          obtain ⟨q0, q1, q2, q3, q4⟩ := PcAt.get HRw hx
          have HX := Lib.hid hx
          clear HRw hx
          have GX := Lib.hid (GB.out.trans (G.out.mono (Nat.le_of_lt hDN)))
          by_cases hsp : x.d < x.n
          · obtain rfl : R = ([], 3) := HNO.out (fst_hit HX.out hsp)
            have hDw : D ≤ wr.heap.size := by omega
            go_wp2_with fail
            go_ret2
            exact ⟨⟨_, rfl, World.ownsRow_nil _ _ _ _⟩, GX.out.alloc hDw _⟩
          · have HF2 := Lib.hid (fst_step HX.out HFB.out (by omega))
            go_wp2_with fail
            go_roundw
            case rel => exact ⟨k + 1, by omega, by go_num, HF2, Lib.hid (G.out.alloc hNw _)⟩
            case measure => simp [intOf]; omega
        · obtain rfl : k = L.length := by omega
          have HFL := Lib.hid (show fstB L = false by have := HFB.out; rw [List.take_length] at this; exact this)
          have G2 := G
          clear hlt HFB G hNw
          go_wp2_with fail
          go_loopw [10, 42] (fun ov i wr => ∃ (k : Nat) (uv : Value), uv = ov ∧ k ≤ L.length ∧ i = .int .i64 k ∧ Hid (wr.ownsRow N 42 2 uv (imgL (L.take k) s).length ((imgL (L.take k) s).flatMap spV)) ∧ Hid (fstB (L) = false) ∧ Hid (Below N w1 wr)) (fun _ i _ => L.length - (intOf i).toNat)
          case atStart => exact ⟨0, _, rfl, by omega, rfl, Lib.hid (World.ownsRow_nil _ _ _ _), HFL, G2⟩
          case round =>
            obtain ⟨k, uv, rfl, hk, rfl, HO, HFB, G⟩ := hrel
            have hNw : N ≤ wr.heap.size := by have := G.out.size; have := HNN.out; omega
            by_cases hlt : k < L.length
            · have hlt2 : (k : Int) < (L.length : Int) := by omega
              obtain ⟨x, hx⟩ : ∃ x, L[k]? = some x := ⟨_, List.getElem?_eq_getElem hlt⟩
              have HRw := H1.out.ext (HNN.out ▸ G.out)
              obtain ⟨g, o, rfl⟩ := PcAt.some HRw hx
              obtain ⟨q0, q1, q2, q3, q4⟩ := PcAt.get HRw hx
              have HX := Lib.hid hx
              have HST := Lib.hid (img_step s hx)
              have HGX := Lib.hid (HG.out x (List.mem_of_getElem? hx))
              have hm : (imgL (L.take k) s).length ≤ 64 := by have := imgL_len (L.take k) s; rw [List.length_take] at this; omega
              generalize imgL (L.take k) s = M at *
              clear HRw hx
              have HF2 := HFB
              have hO : imgO x s = if max x.i s.i < min x.o s.o then [⟨ledP x (max x.i s.i), ledP x (min x.o s.o - 1) + 1⟩] else [] := rfl
              go_wp2_with fail
              generalize hw5 : World.alloc wr _ = w5
              have F5 := Lib.hid (show Held w5 wr.heap.size (pcV x) by subst hw5; exact Held.new rfl)
              obtain ⟨z0, z1, z2, z3, z4⟩ := five_of F5.out
              have G5 := Lib.hid (show Below N w1 w5 by subst hw5; exact G.out.alloc hNw _)
              obtain ⟨s0, s1⟩ := two_of (F1.out.below G5.out hDN)
              have HO5 := Lib.hid (show w5.ownsRow N 42 2 uv M.length (M.flatMap spV) by subst hw5; exact HO.out.alloc _)
              clear hw5 q0 q1 q2 q3 q4 HO G
              generalize hX : wr.heap.size = X at *
              clear hX
              go_quiet (fail)
              have F6 := Lib.hid (F5.out.drewN nq)
              have G6 := Lib.hid (below_drewN G5.out nq)
              have HO6 := Lib.hid (show (w5.drewN nq).ownsRow N 42 2 uv M.length (M.flatMap spV) from HO5.out)
              generalize w5.drewN nq = w6 at *
              have hNw6 : N ≤ w6.heap.size := by have := G6.out.size; have := HNN.out; omega
              clear F5 G5 HO5 z0 z1 z2 z3 z4 s0 s1
              by_cases hin : max x.i s.i < min x.o s.o
              · rw [if_pos hin] at hO
                obtain ⟨a1, a2, a3, a4, a5, a6, a7⟩ := sgl_ok.1 HGX.out
                have a3 : x.o ≤ 5184000 := a3
                have a6 : x.t < 5184000 := a6
                obtain ⟨ra, hra⟩ : ∃ a, a = ledP x (max x.i s.i) := ⟨_, rfl⟩
                obtain ⟨rb, hrb⟩ : ∃ a, a = ledP x (min x.o s.o - 1) := ⟨_, rfl⟩
                have r1 := led_in HGX.out (x := min x.o s.o - 1) (by omega) (by omega)
                have HFA := Lib.hid (fun W => led_any x (max x.i s.i) W a4 (by omega) (by omega) (by omega) (by omega) (by omega) (by omega))
                have HFB2 := Lib.hid (fun W => led_any x (min x.o s.o - 1) W a4 (by omega) (by omega) (by omega) (by omega) (by omega) (by omega))
                rw [← hra] at HFA hO
                rw [← hrb] at HFB2 hO r1
                rw [hO] at HST
                have hrb2 : rb < 5184000 := r1.2
                have hq1 : wrap64 (min x.o s.o - 1) = min x.o s.o - 1 := by go_arith
                have hq2 : IntKind.i64.wrap (min x.o s.o - 1) = min x.o s.o - 1 := by rw [IntKind.wrap_i64]; omega
                have hr1 : wrap64 (rb + 1) = rb + 1 := by go_arith
                have hr2 : IntKind.i64.wrap (rb + 1) = rb + 1 := by rw [IntKind.wrap_i64]; omega
                clear a7 a4 r1 hra hrb hO
                obtain ⟨z0, z1, z2, z3, z4⟩ := five_of F6.out
                go_wp2_with fail
                obtain ⟨E, hE⟩ : ∃ E, E = w6.heap.size := ⟨_, rfl⟩
                have hNE : N ≤ E := by rw [hE]; exact hNw6
                have hXE : X < E := by rw [hE]; exact F6.out.lt
                have HOX := Lib.hid (fun W (hW : Below E w6 W) => show W.ownsRow N 42 2 uv M.length (M.flatMap spV) from ownsRow_below (B := E) HO6.out hW (Nat.le_of_eq hE.symm))
                have HSZ := Lib.hid (fun W (hW : Below E w6 W) => show E ≤ W.heap.size by have := hW.size; omega)
                clear hE
                refine wp_region_spec_tail 11 (by kernel_rfl) (fun w' => Below E w6 w') (PhiImgr uv x s X D ra rb E) 74 rfl (by kernel_rfl) (by kernel_rfl) (by kernel_rfl) (by kernel_rfl) (by kernel_rfl) (Below.refl _ _).drew ?hops ?hend
                case hops =>
                  refine ⟨?o0, ?o1, ?o2, ?o3, ?o4, ?o5, ?o6, ?o7, ?o8, ?o9, ?o10, trivial⟩
                  case o0 =>
                    intro ev w8 hI hdep hfree
                    have a10 : ev 10 = uv := hfree 10 (by kernel_rfl)
                    clear hdep hfree
                    try dsimp only
                    simp [OpRuns, execOp, evalOf, a10, go_sem]
                    first | exact ⟨hI, rfl, fun e => absurd e (by decide)⟩ | exact ⟨hI, rfl⟩ | exact hI
                  case o1 =>
                    intro ev w8 hI hdep hfree
                    have a12 : ev 12 = Value.pointer (some { block := X, off := 0 }) := hfree 12 (by kernel_rfl)
                    clear hdep hfree
                    have y0 : w8.cell? ⟨X, 0, none⟩ = some (.int .i64 x.i) := (hI.cell (p := ⟨X, 0, none⟩) hXE).trans z0
                    have y1 : w8.cell? ⟨X, 1, none⟩ = some (.int .i64 x.o) := (hI.cell (p := ⟨X, 1, none⟩) hXE).trans z1
                    have y2 : w8.cell? ⟨X, 2, none⟩ = some (.int .i64 x.t) := (hI.cell (p := ⟨X, 2, none⟩) hXE).trans z2
                    have y3 : w8.cell? ⟨X, 3, none⟩ = some (.int .i64 x.n) := (hI.cell (p := ⟨X, 3, none⟩) hXE).trans z3
                    have y4 : w8.cell? ⟨X, 4, none⟩ = some (.int .i64 x.d) := (hI.cell (p := ⟨X, 4, none⟩) hXE).trans z4
                    try dsimp only
                    simp [OpRuns, execOp, evalOf, a12, y0, y1, y2, y3, y4, go_sem]
                    first | exact ⟨hI, rfl, fun e => absurd e (by decide)⟩ | exact ⟨hI, rfl⟩ | exact hI
                  case o2 =>
                    intro ev w8 hI hdep hfree
                    have a13 : ev 13 = Value.int IntKind.i64 (max x.i s.i) := hfree 13 (by kernel_rfl)
                    clear hdep hfree
                    try dsimp only
                    simp [OpRuns, execOp, evalOf, a13, go_sem]
                    first | exact ⟨hI, rfl, fun e => absurd e (by decide)⟩ | exact ⟨hI, rfl⟩ | exact hI
                  case o3 =>
                    intro ev w8 hI hdep hfree
                    have a60 : ev 60 = pcA x := (hdep 1 60 (by kernel_rfl) (by kernel_rfl)).1
                    have a61 : ev 61 = .int .i64 (max x.i s.i) := (hdep 2 61 (by kernel_rfl) (by kernel_rfl)).1
                    clear hdep hfree
                    try dsimp only
                    refine runs_call (f := 47) (args := #[pcA x, .int .i64 (max x.i s.i)]) (by simp [execOp, evalOf, resolve, invoke, a60, a61, go_sem]) ((HFA.out w8).mono ?_)
                    rintro e w9 ⟨he, hb⟩
                    exact ⟨_, he, hI.trans (hb.mono (HSZ.out w8 hI)), PhiImgr.ext hb, fun d hd => by cases hd; exact ⟨rfl, fun e => absurd e (by decide)⟩⟩
                  case o4 =>
                    intro ev w8 hI hdep hfree
                    have a12 : ev 12 = Value.pointer (some { block := X, off := 0 }) := hfree 12 (by kernel_rfl)
                    clear hdep hfree
                    have y0 : w8.cell? ⟨X, 0, none⟩ = some (.int .i64 x.i) := (hI.cell (p := ⟨X, 0, none⟩) hXE).trans z0
                    have y1 : w8.cell? ⟨X, 1, none⟩ = some (.int .i64 x.o) := (hI.cell (p := ⟨X, 1, none⟩) hXE).trans z1
                    have y2 : w8.cell? ⟨X, 2, none⟩ = some (.int .i64 x.t) := (hI.cell (p := ⟨X, 2, none⟩) hXE).trans z2
                    have y3 : w8.cell? ⟨X, 3, none⟩ = some (.int .i64 x.n) := (hI.cell (p := ⟨X, 3, none⟩) hXE).trans z3
                    have y4 : w8.cell? ⟨X, 4, none⟩ = some (.int .i64 x.d) := (hI.cell (p := ⟨X, 4, none⟩) hXE).trans z4
                    try dsimp only
                    simp [OpRuns, execOp, evalOf, a12, y0, y1, y2, y3, y4, go_sem]
                    first | exact ⟨hI, rfl, fun e => absurd e (by decide)⟩ | exact ⟨hI, rfl⟩ | exact hI
                  case o5 =>
                    intro ev w8 hI hdep hfree
                    have a14 : ev 14 = Value.int IntKind.i64 (min x.o s.o) := hfree 14 (by kernel_rfl)
                    clear hdep hfree
                    try dsimp only
                    simp [OpRuns, execOp, evalOf, a14, go_sem]
                    first | exact ⟨hI, rfl, fun e => absurd e (by decide)⟩ | exact ⟨hI, rfl⟩ | exact hI
                  case o6 =>
                    intro ev w8 hI hdep hfree
                    have a64 : ev 64 = .int .i64 (min x.o s.o) := (hdep 5 64 (by kernel_rfl) (by kernel_rfl)).1
                    clear hdep hfree
                    try dsimp only
                    simp [OpRuns, execOp, evalOf, a64, hq1, hq2, go_sem]
                    first | exact ⟨hI, rfl, fun e => absurd e (by decide)⟩ | exact ⟨hI, rfl⟩ | exact hI
                  case o7 =>
                    intro ev w8 hI hdep hfree
                    have a63 : ev 63 = pcA x := (hdep 4 63 (by kernel_rfl) (by kernel_rfl)).1
                    have a65 : ev 65 = .int .i64 (min x.o s.o - 1) := (hdep 6 65 (by kernel_rfl) (by kernel_rfl)).1
                    clear hdep hfree
                    try dsimp only
                    refine runs_call (f := 47) (args := #[pcA x, .int .i64 (min x.o s.o - 1)]) (by simp [execOp, evalOf, resolve, invoke, a63, a65, go_sem]) ((HFB2.out w8).mono ?_)
                    rintro e w9 ⟨he, hb⟩
                    exact ⟨_, he, hI.trans (hb.mono (HSZ.out w8 hI)), PhiImgr.ext hb, fun d hd => by cases hd; exact ⟨rfl, fun e => absurd e (by decide)⟩⟩
                  case o8 =>
                    intro ev w8 hI hdep hfree
                    have a66 : ev 66 = .int .i64 rb := (hdep 7 66 (by kernel_rfl) (by kernel_rfl)).1
                    clear hdep hfree
                    try dsimp only
                    simp [OpRuns, execOp, evalOf, a66, hr1, hr2, go_sem]
                    first | exact ⟨hI, rfl, fun e => absurd e (by decide)⟩ | exact ⟨hI, rfl⟩ | exact hI
                  case o9 =>
                    intro ev w8 hI hdep hfree
                    have a62 : ev 62 = .int .i64 ra := (hdep 3 62 (by kernel_rfl) (by kernel_rfl)).1
                    have a67 : ev 67 = .int .i64 (rb + 1) := (hdep 8 67 (by kernel_rfl) (by kernel_rfl)).1
                    clear hdep hfree
                    try dsimp only
                    simp [OpRuns, execOp, evalOf, a62, a67, go_sem]
                    first | exact ⟨hI, rfl, fun e => absurd e (by decide)⟩ | exact ⟨hI, rfl⟩ | exact hI
                  case o10 =>
                    intro ev w8 hI hdep hfree
                    have a68 : ev 68 = spA ⟨ra, rb + 1⟩ := (hdep 9 68 (by kernel_rfl) (by kernel_rfl)).1
                    clear hdep hfree
                    try dsimp only
                    simp [OpRuns, execOp, evalOf, a68, go_sem]
                    exact ⟨hI.alloc (HSZ.out w8 hI) _, PhiImgr.ext (below_one _ _), trivial, fun _ => ⟨_, rfl, HSZ.out w8 hI, Held.new rfl⟩⟩
                case hend =>
                  intro a w8 hdf hsz hI hPhi hkept
                  replace hdf : a.defers = [] := hdf
                  replace hsz : a.tmps.size = 74 := hsz
                  have x59 : a.tmps.getD 59 undef = uv := (hPhi 0 59 (by omega) (by kernel_rfl)).1
                  obtain ⟨h69, x69, hE69, HH69⟩ := (hPhi 10 69 (by omega) (by kernel_rfl)).2 rfl
                  have x0 : a.tmps.getD 0 undef = Value.slice (some { block := g, off := o }) L.length c := hkept 0 (kept_of (by kernel_rfl))
                  have x1 : a.tmps.getD 1 undef = spA s := hkept 1 (kept_of (by kernel_rfl))
                  have x2 : a.tmps.getD 2 undef = undef := hkept 2 (kept_of (by kernel_rfl))
                  have x3 : a.tmps.getD 3 undef = Value.pointer (some { block := D, off := 0 }) := hkept 3 (kept_of (by kernel_rfl))
                  have x4 : a.tmps.getD 4 undef = u4 := hkept 4 (kept_of (by kernel_rfl))
                  have x5 : a.tmps.getD 5 undef = u5 := hkept 5 (kept_of (by kernel_rfl))
                  have x6 : a.tmps.getD 6 undef = Value.int IntKind.i64 0 := hkept 6 (kept_of (by kernel_rfl))
                  have x7 : a.tmps.getD 7 undef = Value.int IntKind.i64 0 := hkept 7 (kept_of (by kernel_rfl))
                  have x8 : a.tmps.getD 8 undef = undef := hkept 8 (kept_of (by kernel_rfl))
                  have x9 : a.tmps.getD 9 undef = u9 := hkept 9 (kept_of (by kernel_rfl))
                  have x10 : a.tmps.getD 10 undef = uv := hkept 10 (kept_of (by kernel_rfl))
                  have x11 : a.tmps.getD 11 undef = undef := hkept 11 (kept_of (by kernel_rfl))
                  have x12 : a.tmps.getD 12 undef = Value.pointer (some { block := X, off := 0 }) := hkept 12 (kept_of (by kernel_rfl))
                  have x13 : a.tmps.getD 13 undef = Value.int IntKind.i64 (max x.i s.i) := hkept 13 (kept_of (by kernel_rfl))
                  have x14 : a.tmps.getD 14 undef = Value.int IntKind.i64 (min x.o s.o) := hkept 14 (kept_of (by kernel_rfl))
                  have x15 : a.tmps.getD 15 undef = Value.slice (some { block := g, off := o }) L.length c := hkept 15 (kept_of (by kernel_rfl))
                  have x16 : a.tmps.getD 16 undef = Value.int IntKind.i64 0 := hkept 16 (kept_of (by kernel_rfl))
                  have x17 : a.tmps.getD 17 undef = Value.int IntKind.i64 0 := hkept 17 (kept_of (by kernel_rfl))
                  have x18 : a.tmps.getD 18 undef = Value.bool false := hkept 18 (kept_of (by kernel_rfl))
                  have x19 : a.tmps.getD 19 undef = undef := hkept 19 (kept_of (by kernel_rfl))
                  have x20 : a.tmps.getD 20 undef = Value.agg #[Value.int IntKind.i64 s.i, Value.int IntKind.i64 s.o] := hkept 20 (kept_of (by kernel_rfl))
                  have x21 : a.tmps.getD 21 undef = Value.slice (some { block := w2.heap.size, off := 0 }) 1 1 := hkept 21 (kept_of (by kernel_rfl))
                  have x22 : a.tmps.getD 22 undef = Value.int IntKind.i64 0 := hkept 22 (kept_of (by kernel_rfl))
                  have x23 : a.tmps.getD 23 undef = Value.int IntKind.i64 0 := hkept 23 (kept_of (by kernel_rfl))
                  have x24 : a.tmps.getD 24 undef = Value.bool false := hkept 24 (kept_of (by kernel_rfl))
                  have x25 : a.tmps.getD 25 undef = undef := hkept 25 (kept_of (by kernel_rfl))
                  have x26 : a.tmps.getD 26 undef = Value.slice (some { block := g, off := o }) L.length c := hkept 26 (kept_of (by kernel_rfl))
                  have x27 : a.tmps.getD 27 undef = Value.int IntKind.i64 (↑L.length : Int) := hkept 27 (kept_of (by kernel_rfl))
                  have x28 : a.tmps.getD 28 undef = Value.int IntKind.i64 (↑L.length : Int) := hkept 28 (kept_of (by kernel_rfl))
                  have x29 : a.tmps.getD 29 undef = Value.bool false := hkept 29 (kept_of (by kernel_rfl))
                  have x30 : a.tmps.getD 30 undef = u30 := hkept 30 (kept_of (by kernel_rfl))
                  have x31 : a.tmps.getD 31 undef = u31 := hkept 31 (kept_of (by kernel_rfl))
                  have x32 : a.tmps.getD 32 undef = u32 := hkept 32 (kept_of (by kernel_rfl))
                  have x33 : a.tmps.getD 33 undef = u33 := hkept 33 (kept_of (by kernel_rfl))
                  have x34 : a.tmps.getD 34 undef = u34 := hkept 34 (kept_of (by kernel_rfl))
                  have x35 : a.tmps.getD 35 undef = u35 := hkept 35 (kept_of (by kernel_rfl))
                  have x36 : a.tmps.getD 36 undef = u36 := hkept 36 (kept_of (by kernel_rfl))
                  have x37 : a.tmps.getD 37 undef = u37 := hkept 37 (kept_of (by kernel_rfl))
                  have x38 : a.tmps.getD 38 undef = u38 := hkept 38 (kept_of (by kernel_rfl))
                  have x39 : a.tmps.getD 39 undef = u39 := hkept 39 (kept_of (by kernel_rfl))
                  have x40 : a.tmps.getD 40 undef = Value.slice (some { block := g, off := o }) L.length c := hkept 40 (kept_of (by kernel_rfl))
                  have x41 : a.tmps.getD 41 undef = Value.int IntKind.i64 (↑L.length : Int) := hkept 41 (kept_of (by kernel_rfl))
                  have x42 : a.tmps.getD 42 undef = Value.int IntKind.i64 (↑k : Int) := hkept 42 (kept_of (by kernel_rfl))
                  have x43 : a.tmps.getD 43 undef = Value.bool true := hkept 43 (kept_of (by kernel_rfl))
                  have x44 : a.tmps.getD 44 undef = Value.pointer (some { block := g, off := o + k * 5 }) := hkept 44 (kept_of (by kernel_rfl))
                  have x45 : a.tmps.getD 45 undef = Value.agg #[Value.int IntKind.i64 x.i, Value.int IntKind.i64 x.o, Value.int IntKind.i64 x.t, Value.int IntKind.i64 x.n, Value.int IntKind.i64 x.d] := hkept 45 (kept_of (by kernel_rfl))
                  have x46 : a.tmps.getD 46 undef = Value.pointer (some { block := X, off := 0 }) := hkept 46 (kept_of (by kernel_rfl))
                  have x47 : a.tmps.getD 47 undef = Value.int IntKind.i64 x.i := hkept 47 (kept_of (by kernel_rfl))
                  have x48 : a.tmps.getD 48 undef = Value.pointer (some { block := D, off := 0 }) := hkept 48 (kept_of (by kernel_rfl))
                  have x49 : a.tmps.getD 49 undef = Value.int IntKind.i64 s.i := hkept 49 (kept_of (by kernel_rfl))
                  have x50 : a.tmps.getD 50 undef = Value.int IntKind.i64 (max x.i s.i) := hkept 50 (kept_of (by kernel_rfl))
                  have x51 : a.tmps.getD 51 undef = Value.pointer (some { block := X, off := 1 }) := hkept 51 (kept_of (by kernel_rfl))
                  have x52 : a.tmps.getD 52 undef = Value.int IntKind.i64 x.o := hkept 52 (kept_of (by kernel_rfl))
                  have x53 : a.tmps.getD 53 undef = Value.pointer (some { block := D, off := 1 }) := hkept 53 (kept_of (by kernel_rfl))
                  have x54 : a.tmps.getD 54 undef = Value.int IntKind.i64 s.o := hkept 54 (kept_of (by kernel_rfl))
                  have x55 : a.tmps.getD 55 undef = Value.int IntKind.i64 (min x.o s.o) := hkept 55 (kept_of (by kernel_rfl))
                  have x56 : a.tmps.getD 56 undef = Value.int IntKind.i64 (max x.i s.i) := hkept 56 (kept_of (by kernel_rfl))
                  have x57 : a.tmps.getD 57 undef = Value.int IntKind.i64 (min x.o s.o) := hkept 57 (kept_of (by kernel_rfl))
                  have x58 : a.tmps.getD 58 undef = Value.bool true := hkept 58 (kept_of (by kernel_rfl))
                  have x70 : a.tmps.getD 70 undef = u70 := hkept 70 (kept_of (by kernel_rfl))
                  have x71 : a.tmps.getD 71 undef = u71 := hkept 71 (kept_of (by kernel_rfl))
                  have x72 : a.tmps.getD 72 undef = undef := hkept 72 (kept_of (by kernel_rfl))
                  have x73 : a.tmps.getD 73 undef = undef := hkept 73 (kept_of (by kernel_rfl))
                  have ea := act_lit hsz hdf
                  simp only [getDs] at ea
                  rw [x59, x69, x0, x1, x2, x3, x4, x5, x6, x7, x8, x9, x10, x11, x12, x13, x14, x15, x16, x17, x18, x19, x20, x21, x22, x23, x24, x25, x26, x27, x28, x29, x30, x31, x32, x33, x34, x35, x36, x37, x38, x39, x40, x41, x42, x43, x44, x45, x46, x47, x48, x49, x50, x51, x52, x53, x54, x55, x56, x57, x58, x70, x71, x72, x73] at ea
                  rw [ea]
                  clear ea x59 x69 x0 x1 x2 x3 x4 x5 x6 x7 x8 x9 x10 x11 x12 x13 x14 x15 x16 x17 x18 x19 x20 x21 x22 x23 x24 x25 x26 x27 x28 x29 x30 x31 x32 x33 x34 x35 x36 x37 x38 x39 x40 x41 x42 x43 x44 x45 x46 x47 x48 x49 x50 x51 x52 x53 x54 x55 x56 x57 x58 x70 x71 x72 x73 hPhi hkept hdf hsz
                  generalize a.tmps.getD 60 undef = u60
                  generalize a.tmps.getD 61 undef = u61
                  generalize a.tmps.getD 62 undef = u62
                  generalize a.tmps.getD 63 undef = u63
                  generalize a.tmps.getD 64 undef = u64
                  generalize a.tmps.getD 65 undef = u65
                  generalize a.tmps.getD 66 undef = u66
                  generalize a.tmps.getD 67 undef = u67
                  generalize a.tmps.getD 68 undef = u68
                  clear a
                  have hszE : E ≤ w8.heap.size := HSZ.out w8 hI
                  have HO8 := Lib.hid (HOX.out w8 hI)
                  have G8 := Lib.hid (show Below N w1 w8 from G6.out.trans (hI.mono hNE))
                  have hNw8 : N ≤ w8.heap.size := by omega
                  obtain ⟨n0, n1⟩ := two_of HH69
                  clear hI HO6 G6 z0 z1 z2 z3 z4 HH69
                  simp only [List.drop_succ_cons, List.drop_zero]
                  go_loud (refine wpList_append_lies _ rfl _ _ 35 rfl N 42 i0 (.agg #[.int .i64 0, .int .i64 0]) 2 16 Tryz.underlying35 HI0.out.1 HI0.out.2.1 HI0.out.2.2.1 HI0.out.2.2.2 rfl (by decide) uv M.length (M.flatMap spV) rfl HO8.out ⟨h69, 0, none⟩ 1 1 (spV (Spn.mk ra (rb + 1))) rfl rfl (CellsAt.all (by simp [CellsAt, go_sem, spV, n0, n1])) (by simp [Value.oneCell', spV]) (by omega) (by simp only [maxLen]; omega) (by omega) hNw8 _ rfl ?_)
                  intro g' cap' w7 ho hgr hat hlt7
                  have G7 := Lib.hid (show Below N w1 w7 from G8.out.grown hgr hNw8 (fun k e => (HO8.out.lt k e).1))
                  have HO7 := Lib.hid (show w7.ownsRow N 42 2 (.slice (some ⟨g', 0, none⟩) (M.length + 1) cap') (M ++ [Spn.mk ra (rb + 1)]).length ((M ++ [Spn.mk ra (rb + 1)]).flatMap spV) by
                    rw [List.flatMap_append, List.length_append]
                    simpa using ho)
                  rw [← HST.out] at HO7
                  clear ho hgr hat hlt7 n0 n1
                  go_wp2_with fail
                  go_roundw
                  case rel =>
                    first
                      | exact ⟨k + 1, _, rfl, by omega, by go_num, HO7, HF2, G7⟩
                      | (repeat apply Exists.intro); refine ⟨?_, rfl⟩; exact ⟨k + 1, _, rfl, by omega, by go_num, HO7, HF2, G7⟩
                  case measure => simp [intOf]; omega

              · rw [if_neg hin] at hO
                rw [hO, List.append_nil] at HST
                clear hO
                go_wp2_with fail
                rw [← HST.out] at HO6
                go_roundw
                case rel =>
                  first
                    | exact ⟨k + 1, _, rfl, by omega, by go_num, HO6, HF2, G6⟩
                    | (repeat apply Exists.intro); refine ⟨?_, rfl⟩; exact ⟨k + 1, _, rfl, by omega, by go_num, HO6, HF2, G6⟩
                case measure => simp [intOf]; omega
            · obtain rfl : k = L.length := by omega
              rw [List.take_length] at HO
              have hfb : fstB L = false := by have := HFB.out; exact this
              obtain ⟨A4, c4, e4, hr4, _⟩ := own_form HO.out
              subst e4
              have HR4 := Lib.hid hr4
              have HIL := Lib.hid (show (imgL L s).length ≤ 1000000 by have := HIN.out; omega)
              have hDw : D ≤ wr.heap.size := by omega
              have GW := Lib.hid (GB.out.trans (G.out.mono (Nat.le_of_lt hDN)))
              have HN2 := Lib.hid (HN.out hfb)
              obtain rfl : R = (joinS (imgL L s), 0) := HOK.out hfb
              clear hlt hr4 hfb
              go_wp2_with fail
              refine (join_any A4 c4 (imgL L s) wr HR4.out HIL.out).mono ?_
              rintro e w7 ⟨⟨v, rfl, ho⟩, hb⟩
              have HO7 := Lib.hid (ownsRow_mono ho hDw)
              have G7 := Lib.hid (GW.out.trans (hb.mono hDw))
              clear ho hb
              go_wp2_with fail
              go_ret2
              exact ⟨⟨_, rfl, HO7.out⟩, G7.out⟩
    · rw [show imgP L s = ([], chkS [s]) by unfold imgP; rw [if_pos h0, if_neg h1]]
      rw [h0] at HC
      obtain ⟨E, hE⟩ : ∃ E, E = chkS [s] := ⟨_, rfl⟩
      have HE := Lib.hid hE
      rw [← hE] at h1 ⊢
      have h0b : (E == 0) = false := by simpa using h1
      clear hE h0
      go_enter Tryz.func29, Tryz.ntmps29
      go_wp2_with fail
      rw [← HD.out]
      generalize hw1 : World.alloc w _ = w1
      have F1 := Lib.hid (show Held w1 D [.int .i64 s.i, .int .i64 s.o] by subst hw1; exact Held.new HD.out)
      have GB := Lib.hid (show Below D w w1 by subst hw1; rw [HD.out]; exact below_one _ _)
      have H1 := Lib.hid (show PcAt w1 A L from HS.out.ext (HD.out ▸ GB.out))
      clear hw1
      refine (HC.out w1 H1.out).mono ?_
      rintro e w2 ⟨rfl, hb⟩
      obtain ⟨c0, c1⟩ := two_of (F1.out.ext hb)
      have hs2 : D ≤ w2.heap.size := Nat.le_of_lt (F1.out.ext hb).lt
      have G2 := Lib.hid (GB.out.trans (hb.mono (by have := F1.out.lt; omega)))
      clear hb HC
      go_wp2_with fail
      generalize hw3 : World.alloc w2 _ = w3
      have F3 := Lib.hid (show Held w3 w2.heap.size [.int .i64 s.i, .int .i64 s.o] by subst hw3; exact Held.new rfl)
      have G3 := Lib.hid (show Below D w w3 by subst hw3; exact G2.out.alloc hs2 _)
      have hs3 : D ≤ w3.heap.size := by subst hw3; simp; omega
      clear hw3 c0 c1
      refine (chkr_any (some ⟨w2.heap.size, 0, none⟩) 1 [s] w3 (one_row F3.out) (by simp)).mono ?_
      rintro e w4 ⟨rfl, hb⟩
      rw [← HE.out]
      have G4 := Lib.hid (G3.out.trans (hb.mono hs3))
      clear hb F3 G3 hs2 hs3
      go_wp2_with fail
      go_ret2
      exact ⟨⟨_, rfl, World.ownsRow_nil _ _ _ _⟩, G4.out⟩
  · rw [show imgP L s = ([], chkP L) by unfold imgP; rw [if_neg h0]]
    generalize chkP L = E at *
    have h0b : (E == 0) = false := by simpa using h0
    go_enter Tryz.func29, Tryz.ntmps29
    go_wp2_with fail
    rw [← HD.out]
    generalize hw1 : World.alloc w _ = w1
    have GB := Lib.hid (show Below D w w1 by subst hw1; rw [HD.out]; exact below_one _ _)
    have hs1 : D ≤ w1.heap.size := by subst hw1; simp; have := HD.out; omega
    have H1 := Lib.hid (show PcAt w1 A L from HS.out.ext (HD.out ▸ GB.out))
    clear hw1
    refine (HC.out w1 H1.out).mono ?_
    rintro e w2 ⟨rfl, hb⟩
    have G2 := Lib.hid (GB.out.trans (hb.mono hs1))
    clear hb HC
    go_wp2_with fail
    go_ret2
    exact ⟨⟨_, rfl, World.ownsRow_nil _ _ _ _⟩, G2.out⟩
end Go.Proofs.YteojlodcafogaaaGreatDoor
namespace Go.Proofs.YteojlodcafogaaaGreatDoor
open Go.RowKit Go.Joins
set_option linter.unusedVariables false
set_option linter.unusedSimpArgs false
theorem wdP_assoc (x : Pc) : wdA x ++ [62] ++ Lib.itoa x.t ++ [42] ++ Q.textL x.n x.d = wdP x := by
  unfold wdP wdB
  simp [List.append_assoc]
theorem pwd_step {L : List Pc} {k : Nat} {x : Pc} (hk : L[k]? = some x) : ((L.take (k + 1)).map (fun s => Value.string (sB (wdP s)))) = (L.take k).map (fun s => Value.string (sB (wdP s))) ++ [.string (sB (wdP x))] := by
  rw [List.take_add_one, hk, List.map_append]
  rfl
theorem fmtp_any (n : Int) (w : World) (h0 : 0 ≤ n) (h1 : n ≤ 5184000) (ht : Tab w) :
    Calls Tryz.prog 37 #[.int .i64 n, .int .i64 10] w fun e w' => e = .returned (.string (sB (Lib.itoa n))) ∧ Below w.heap.size w w' := fmt_any n w h0 (by omega) ht
def PhiTxtY (uv : Value) (x : Pc) (X : Nat) (t1 t2 t3 t4 t5 : List UInt8) : Nat → Value → Prop
  | 22, v => v = uv
  | 23, v => v = .pointer (some ⟨X, 0, none⟩)
  | 24, v => v = .int .i64 x.i
  | 25, v => v = .string (sB (Lib.itoa x.i))
  | 26, v => v = .string (sB t1)
  | 27, v => v = .pointer (some ⟨X, 1, none⟩)
  | 28, v => v = .int .i64 x.o
  | 29, v => v = .string (sB (Lib.itoa x.o))
  | 30, v => v = .string (sB t2)
  | 31, v => v = .string (sB t3)
  | 32, v => v = .pointer (some ⟨X, 2, none⟩)
  | 33, v => v = .int .i64 x.t
  | 34, v => v = .string (sB (Lib.itoa x.t))
  | 35, v => v = .string (sB t4)
  | 36, v => v = .string (sB t5)
  | 37, v => v = .pointer (some ⟨X, 3, none⟩)
  | 38, v => v = rtA x.n x.d
  | 39, v => v = .string (sB (Q.textL x.n x.d))
  | 40, v => v = .string (sB (wdP x))
  | _, _ => True
def PhiTxt (uv : Value) (x : Pc) (X : Nat) (t1 t2 t3 t4 t5 : List UInt8) (E : Nat) (sl : Nat) (v : Value) (w : World) : Prop := PhiTxtY uv x X t1 t2 t3 t4 t5 sl v ∧ (sl = 41 → ∃ h, v = .slice (some ⟨h, 0, none⟩) 1 1 ∧ E ≤ h ∧ Held w h [.string (sB (wdP x))])
theorem PhiTxt.ext {uv : Value} {x : Pc} {X : Nat} {t1 t2 t3 t4 t5 : List UInt8} {E : Nat} {w w' : World} (hb : Below w.heap.size w w') : ∀ sl v, PhiTxt uv x X t1 t2 t3 t4 t5 E sl v w → PhiTxt uv x X t1 t2 t3 t4 t5 E sl v w' := fun sl v h => ⟨h.1, fun e => let ⟨h1, h2, h3, h4⟩ := h.2 e; ⟨h1, h2, h3, h4.ext hb⟩⟩
set_option maxRecDepth 100000 in
set_option maxHeartbeats 4000000 in
theorem textp_some (A : Option Addr) (c : Nat) (L : List Pc) (w : World) (h : PcAt w A L) (hf : Frp L) (h0 : chkP L = 0) (he : 0 < L.length) (ht : Tab w) :
    Calls Tryz.prog 14 #[.slice A L.length c] w (TextP (Lib.join (L.map wdP) [32], 0) w) := by
  have H := Lib.hid h
  have heb : ((L.length : Int) == 0) = false := by rw [beq_eq_false_iff_ne]; omega
  have hlen := (chkP_ok.1 h0).1
  have HC := Lib.hid (chkp_any A c L w h hf (by omega))
  rw [h0] at HC
  have HBD := Lib.hid (chkP_ok.1 h0).2.1
  have HJB := Lib.hid (pjoin_bd (chkP_ok.1 h0).2.1)
  have HT := Lib.hid (Lib.tabBelow_of_tabIs ht)
  obtain ⟨T, hT⟩ : ∃ T, T = Lib.join (L.map wdP) [32] := ⟨_, rfl⟩
  rw [← hT]
  have HTX := Lib.hid hT
  obtain ⟨i0, hi, hz0, hz1, hz2⟩ := info_parts i9
  have HI0 := Lib.hid (And.intro hi (And.intro hz0 (And.intro hz1 hz2)))
  obtain ⟨B, hB⟩ : ∃ B, B = w.heap.size := ⟨_, rfl⟩
  have HB := Lib.hid hB
  unfold TextP
  rw [← hB] at HC ⊢
  clear h hf h0 ht hT hi hz0 hz1 hz2 hB
  go_enter Tryz.func14, Tryz.ntmps14
  go_wp2_with fail
  refine HC.out.mono ?_
  rintro e w1 ⟨rfl, hb⟩
  have G1 := Lib.hid hb
  have hs1 : B ≤ w1.heap.size := by have := hb.size; have := HB.out; omega
  clear hb HC
  go_wp2_with fail
  go_loopw [18, 5] (fun i v wr => ∃ (k : Nat) (uv : Value), uv = v ∧ k ≤ L.length ∧ i = .int .i64 k ∧ Hid (wr.ownsRow B 9 1 uv k ((L.take k).map (fun s => Value.string (sB (wdP s))))) ∧ Hid (Below B w wr)) (fun i _ _ => L.length - (intOf i).toNat)
  case atStart => exact ⟨0, _, rfl, by omega, rfl, Lib.hid (World.ownsRow_nil _ _ _ _), G1⟩
  case round =>
    obtain ⟨k, uv, rfl, hk, rfl, HO, G⟩ := hrel
    have hsz : B ≤ wr.heap.size := by have := G.out.size; have := HB.out; omega
    by_cases hlt : k < L.length
    · have hlt2 : (k : Int) < (L.length : Int) := by omega
      obtain ⟨x, hx⟩ : ∃ x, L[k]? = some x := ⟨_, List.getElem?_eq_getElem hlt⟩
      have HX := Lib.hid hx
      have HRw := H.out.ext (HB.out ▸ G.out)
      obtain ⟨g, o, rfl⟩ := PcAt.some HRw hx
      obtain ⟨q0, q1, q2, q3, q4⟩ := PcAt.get HRw hx
      have HXB := Lib.hid (HBD.out x (List.mem_of_getElem? hx))
      clear HRw hx
      go_wp2_with fail
      generalize hw5 : World.alloc wr _ = w5
      have F5 : Held w5 wr.heap.size (pcV x) := by subst hw5; exact Held.new rfl
      obtain ⟨z0, z1, z2, z3, z4⟩ := five_of F5
      have G5 := Lib.hid (show Below B w w5 by subst hw5; exact G.out.alloc hsz _)
      have HO5 := Lib.hid (show w5.ownsRow B 9 1 uv k ((L.take k).map (fun s => Value.string (sB (wdP s)))) by subst hw5; exact HO.out.alloc _)
      have hX5 := F5.lt
      generalize wr.heap.size = X at *
      clear hw5 q0 q1 q2 q3 q4 HO G F5
      obtain ⟨E, hE⟩ : ∃ E, E = w5.heap.size := ⟨_, rfl⟩
      have hEB : B ≤ E := by rw [hE]; have := G5.out.size; have := HB.out; omega
      have hXE : X < E := by omega
      have HOX := Lib.hid (fun W (hW : Below E w5 W) => show W.ownsRow B 9 1 uv k ((L.take k).map (fun s => Value.string (sB (wdP s)))) from ownsRow_below (B := E) HO5.out hW (Nat.le_of_eq hE.symm))
      have HTB := Lib.hid (fun W (hW : Below E w5 W) => (HT.out.on (HB.out ▸ G5.out.trans (hW.mono hEB))).here)
      have HSZ := Lib.hid (fun W (hW : Below E w5 W) => show E ≤ W.heap.size by have := hW.size; omega)
      obtain ⟨x0, x1, x2, x3, x4, x5, x6, x7, x8, x9, xa⟩ := sgl_bd HXB.out
      have l1 := itoa_le7 x0 x1
      have l2 := itoa_le7 x2 x3
      have l3 := itoa_le7 x4 x5
      have l4 := wdA_le HXB.out
      have l5 := txt_le x6 x7 x8 x9 xa
      have HFI := Lib.hid (fun W hW => fmtp_any x.i W x0 x1 (HTB.out W hW))
      have HFO := Lib.hid (fun W hW => fmtp_any x.o W x2 x3 (HTB.out W hW))
      have HFT := Lib.hid (fun W hW => fmtp_any x.t W x4 x5 (HTB.out W hW))
      have HFR := Lib.hid (fun W (hW : Below E w5 W) => (show Calls Tryz.prog 38 #[rtA x.n x.d] W (fun e w' => e = .returned (.string (sB (Q.textL x.n x.d))) ∧ Below W.heap.size W w') from Q.text_any x.n x.d W ⟨by omega, by omega⟩ ⟨by omega, by omega⟩ (HTB.out W hW)))
      have y1 : ∀ w', (Op.stringOp .add (sB (Lib.itoa x.i)) ⟨#[45]⟩).run Tryz.prog w' = .ok (.string (sB (Lib.itoa x.i ++ [45]))) w' := fun w' => add_sB (a := Lib.itoa x.i) (b := [45]) (by simp; omega) w'
      have y2 : ∀ w', (Op.stringOp .add (sB (Lib.itoa x.i ++ [45])) (sB (Lib.itoa x.o))).run Tryz.prog w' = .ok (.string (sB (wdA x))) w' := fun w' => add_sB (by simp; omega) w'
      have y3 : ∀ w', (Op.stringOp .add (sB (wdA x)) ⟨#[62]⟩).run Tryz.prog w' = .ok (.string (sB (wdA x ++ [62]))) w' := fun w' => add_sB (a := wdA x) (b := [62]) (by simp; omega) w'
      have y4 : ∀ w', (Op.stringOp .add (sB (wdA x ++ [62])) (sB (Lib.itoa x.t))).run Tryz.prog w' = .ok (.string (sB (wdA x ++ [62] ++ Lib.itoa x.t))) w' := fun w' => add_sB (by simp; omega) w'
      have y5 : ∀ w', (Op.stringOp .add (sB (wdA x ++ [62] ++ Lib.itoa x.t)) ⟨#[42]⟩).run Tryz.prog w' = .ok (.string (sB (wdA x ++ [62] ++ Lib.itoa x.t ++ [42]))) w' := fun w' => add_sB (a := wdA x ++ [62] ++ Lib.itoa x.t) (b := [42]) (by simp; omega) w'
      have y6 : ∀ w', (Op.stringOp .add (sB (wdA x ++ [62] ++ Lib.itoa x.t ++ [42])) (sB (Q.textL x.n x.d))).run Tryz.prog w' = .ok (.string (sB (wdP x))) w' := fun w' => (wdP_assoc x) ▸ add_sB (by simp; omega) w'
      obtain ⟨t1, t2, t3, t4, t5, v1, v2, v3, v4, v5, v6⟩ : ∃ t1 t2 t3 t4 t5, (∀ w', (Op.stringOp .add (sB (Lib.itoa x.i)) ⟨#[45]⟩).run Tryz.prog w' = .ok (.string (sB t1)) w') ∧ (∀ w', (Op.stringOp .add (sB t1) (sB (Lib.itoa x.o))).run Tryz.prog w' = .ok (.string (sB t2)) w') ∧ (∀ w', (Op.stringOp .add (sB t2) ⟨#[62]⟩).run Tryz.prog w' = .ok (.string (sB t3)) w') ∧ (∀ w', (Op.stringOp .add (sB t3) (sB (Lib.itoa x.t))).run Tryz.prog w' = .ok (.string (sB t4)) w') ∧ (∀ w', (Op.stringOp .add (sB t4) ⟨#[42]⟩).run Tryz.prog w' = .ok (.string (sB t5)) w') ∧ (∀ w', (Op.stringOp .add (sB t5) (sB (Q.textL x.n x.d))).run Tryz.prog w' = .ok (.string (sB (wdP x))) w') := ⟨_, _, _, _, _, y1, y2, y3, y4, y5, y6⟩
      clear y1 y2 y3 y4 y5 y6
      clear hE l1 l2 l3 l4 l5 x0 x1 x2 x3 x4 x5 x6 x7 x8 x9 xa
      refine wp_region_spec_tail 20 (by kernel_rfl) (fun w' => Below E w5 w') (PhiTxt uv x X t1 t2 t3 t4 t5 E) 46 rfl (by kernel_rfl) (by kernel_rfl) (by kernel_rfl) (by kernel_rfl) (by kernel_rfl) (Below.refl _ _).drew ?hops ?hend
      case hops =>
        refine ⟨?o0, ?o1, ?o2, ?o3, ?o4, ?o5, ?o6, ?o7, ?o8, ?o9, ?o10, ?o11, ?o12, ?o13, ?o14, ?o15, ?o16, ?o17, ?o18, ?o19, trivial⟩
        case o0 =>
          intro ev w8 hI hdep hfree
          have a5 : ev 5 = uv := hfree 5 (by kernel_rfl)
          clear hdep hfree
          try dsimp only
          simp [OpRuns, execOp, evalOf, a5, go_sem]
          first | exact ⟨hI, rfl, fun e => absurd e (by decide)⟩ | exact ⟨hI, rfl⟩ | exact hI
        case o1 =>
          intro ev w8 hI hdep hfree
          have a7 : ev 7 = Value.pointer (some { block := X, off := 0 }) := hfree 7 (by kernel_rfl)
          clear hdep hfree
          try dsimp only
          simp [OpRuns, execOp, evalOf, a7, go_sem]
          first | exact ⟨hI, rfl, fun e => absurd e (by decide)⟩ | exact ⟨hI, rfl⟩ | exact hI
        case o2 =>
          intro ev w8 hI hdep hfree
          have a23 : ev 23 = .pointer (some ⟨X, 0, none⟩) := (hdep 1 23 (by kernel_rfl) (by kernel_rfl)).1
          clear hdep hfree
          have y0 : w8.cell? ⟨X, 0, none⟩ = some (.int .i64 x.i) := (hI.cell (p := ⟨X, 0, none⟩) hXE).trans z0
          try dsimp only
          simp [OpRuns, execOp, evalOf, a23, y0, go_sem]
          first | exact ⟨hI, rfl, fun e => absurd e (by decide)⟩ | exact ⟨hI, rfl⟩ | exact hI
        case o3 =>
          intro ev w8 hI hdep hfree
          have a24 : ev 24 = .int .i64 x.i := (hdep 2 24 (by kernel_rfl) (by kernel_rfl)).1
          clear hdep hfree
          try dsimp only
          refine runs_call (f := 37) (args := #[.int .i64 x.i, .int .i64 10]) (by simp [execOp, evalOf, resolve, invoke, a24, go_sem]) ((HFI.out w8 hI).mono ?_)
          rintro e w9 ⟨he, hb⟩
          exact ⟨_, he, hI.trans (hb.mono (HSZ.out w8 hI)), PhiTxt.ext hb, fun d hd => by cases hd; exact ⟨rfl, fun e => absurd e (by decide)⟩⟩
        case o4 =>
          intro ev w8 hI hdep hfree
          have a25 : ev 25 = .string (sB (Lib.itoa x.i)) := (hdep 3 25 (by kernel_rfl) (by kernel_rfl)).1
          clear hdep hfree
          try dsimp only
          simp [OpRuns, execOp, evalOf, a25, v1, go_sem]
          first | exact ⟨hI, rfl, fun e => absurd e (by decide)⟩ | exact ⟨hI, rfl⟩ | exact hI
        case o5 =>
          intro ev w8 hI hdep hfree
          have a7 : ev 7 = Value.pointer (some { block := X, off := 0 }) := hfree 7 (by kernel_rfl)
          clear hdep hfree
          try dsimp only
          simp [OpRuns, execOp, evalOf, a7, go_sem]
          first | exact ⟨hI, rfl, fun e => absurd e (by decide)⟩ | exact ⟨hI, rfl⟩ | exact hI
        case o6 =>
          intro ev w8 hI hdep hfree
          have a27 : ev 27 = .pointer (some ⟨X, 1, none⟩) := (hdep 5 27 (by kernel_rfl) (by kernel_rfl)).1
          clear hdep hfree
          have y0 : w8.cell? ⟨X, 1, none⟩ = some (.int .i64 x.o) := (hI.cell (p := ⟨X, 1, none⟩) hXE).trans z1
          try dsimp only
          simp [OpRuns, execOp, evalOf, a27, y0, go_sem]
          first | exact ⟨hI, rfl, fun e => absurd e (by decide)⟩ | exact ⟨hI, rfl⟩ | exact hI
        case o7 =>
          intro ev w8 hI hdep hfree
          have a28 : ev 28 = .int .i64 x.o := (hdep 6 28 (by kernel_rfl) (by kernel_rfl)).1
          clear hdep hfree
          try dsimp only
          refine runs_call (f := 37) (args := #[.int .i64 x.o, .int .i64 10]) (by simp [execOp, evalOf, resolve, invoke, a28, go_sem]) ((HFO.out w8 hI).mono ?_)
          rintro e w9 ⟨he, hb⟩
          exact ⟨_, he, hI.trans (hb.mono (HSZ.out w8 hI)), PhiTxt.ext hb, fun d hd => by cases hd; exact ⟨rfl, fun e => absurd e (by decide)⟩⟩
        case o8 =>
          intro ev w8 hI hdep hfree
          have a26 : ev 26 = .string (sB t1) := (hdep 4 26 (by kernel_rfl) (by kernel_rfl)).1
          have a29 : ev 29 = .string (sB (Lib.itoa x.o)) := (hdep 7 29 (by kernel_rfl) (by kernel_rfl)).1
          clear hdep hfree
          try dsimp only
          simp [OpRuns, execOp, evalOf, a26, a29, v2, go_sem]
          first | exact ⟨hI, rfl, fun e => absurd e (by decide)⟩ | exact ⟨hI, rfl⟩ | exact hI
        case o9 =>
          intro ev w8 hI hdep hfree
          have a30 : ev 30 = .string (sB t2) := (hdep 8 30 (by kernel_rfl) (by kernel_rfl)).1
          clear hdep hfree
          try dsimp only
          simp [OpRuns, execOp, evalOf, a30, v3, go_sem]
          first | exact ⟨hI, rfl, fun e => absurd e (by decide)⟩ | exact ⟨hI, rfl⟩ | exact hI
        case o10 =>
          intro ev w8 hI hdep hfree
          have a7 : ev 7 = Value.pointer (some { block := X, off := 0 }) := hfree 7 (by kernel_rfl)
          clear hdep hfree
          try dsimp only
          simp [OpRuns, execOp, evalOf, a7, go_sem]
          first | exact ⟨hI, rfl, fun e => absurd e (by decide)⟩ | exact ⟨hI, rfl⟩ | exact hI
        case o11 =>
          intro ev w8 hI hdep hfree
          have a32 : ev 32 = .pointer (some ⟨X, 2, none⟩) := (hdep 10 32 (by kernel_rfl) (by kernel_rfl)).1
          clear hdep hfree
          have y0 : w8.cell? ⟨X, 2, none⟩ = some (.int .i64 x.t) := (hI.cell (p := ⟨X, 2, none⟩) hXE).trans z2
          try dsimp only
          simp [OpRuns, execOp, evalOf, a32, y0, go_sem]
          first | exact ⟨hI, rfl, fun e => absurd e (by decide)⟩ | exact ⟨hI, rfl⟩ | exact hI
        case o12 =>
          intro ev w8 hI hdep hfree
          have a33 : ev 33 = .int .i64 x.t := (hdep 11 33 (by kernel_rfl) (by kernel_rfl)).1
          clear hdep hfree
          try dsimp only
          refine runs_call (f := 37) (args := #[.int .i64 x.t, .int .i64 10]) (by simp [execOp, evalOf, resolve, invoke, a33, go_sem]) ((HFT.out w8 hI).mono ?_)
          rintro e w9 ⟨he, hb⟩
          exact ⟨_, he, hI.trans (hb.mono (HSZ.out w8 hI)), PhiTxt.ext hb, fun d hd => by cases hd; exact ⟨rfl, fun e => absurd e (by decide)⟩⟩
        case o13 =>
          intro ev w8 hI hdep hfree
          have a31 : ev 31 = .string (sB t3) := (hdep 9 31 (by kernel_rfl) (by kernel_rfl)).1
          have a34 : ev 34 = .string (sB (Lib.itoa x.t)) := (hdep 12 34 (by kernel_rfl) (by kernel_rfl)).1
          clear hdep hfree
          try dsimp only
          simp [OpRuns, execOp, evalOf, a31, a34, v4, go_sem]
          first | exact ⟨hI, rfl, fun e => absurd e (by decide)⟩ | exact ⟨hI, rfl⟩ | exact hI
        case o14 =>
          intro ev w8 hI hdep hfree
          have a35 : ev 35 = .string (sB t4) := (hdep 13 35 (by kernel_rfl) (by kernel_rfl)).1
          clear hdep hfree
          try dsimp only
          simp [OpRuns, execOp, evalOf, a35, v5, go_sem]
          first | exact ⟨hI, rfl, fun e => absurd e (by decide)⟩ | exact ⟨hI, rfl⟩ | exact hI
        case o15 =>
          intro ev w8 hI hdep hfree
          have a7 : ev 7 = Value.pointer (some { block := X, off := 0 }) := hfree 7 (by kernel_rfl)
          clear hdep hfree
          try dsimp only
          simp [OpRuns, execOp, evalOf, a7, go_sem]
          first | exact ⟨hI, rfl, fun e => absurd e (by decide)⟩ | exact ⟨hI, rfl⟩ | exact hI
        case o16 =>
          intro ev w8 hI hdep hfree
          have a37 : ev 37 = .pointer (some ⟨X, 3, none⟩) := (hdep 15 37 (by kernel_rfl) (by kernel_rfl)).1
          clear hdep hfree
          have y0 : w8.cell? ⟨X, 3, none⟩ = some (.int .i64 x.n) := (hI.cell (p := ⟨X, 3, none⟩) hXE).trans z3
          have y1 : w8.cell? ⟨X, 4, none⟩ = some (.int .i64 x.d) := (hI.cell (p := ⟨X, 4, none⟩) hXE).trans z4
          try dsimp only
          simp [OpRuns, execOp, evalOf, a37, y0, y1, go_sem]
          first | exact ⟨hI, rfl, fun e => absurd e (by decide)⟩ | exact ⟨hI, rfl⟩ | exact hI
        case o17 =>
          intro ev w8 hI hdep hfree
          have a38 : ev 38 = rtA x.n x.d := (hdep 16 38 (by kernel_rfl) (by kernel_rfl)).1
          clear hdep hfree
          try dsimp only
          refine runs_call (f := 38) (args := #[rtA x.n x.d]) (by simp [execOp, evalOf, resolve, invoke, a38, go_sem]) ((HFR.out w8 hI).mono ?_)
          rintro e w9 ⟨he, hb⟩
          exact ⟨_, he, hI.trans (hb.mono (HSZ.out w8 hI)), PhiTxt.ext hb, fun d hd => by cases hd; exact ⟨rfl, fun e => absurd e (by decide)⟩⟩
        case o18 =>
          intro ev w8 hI hdep hfree
          have a36 : ev 36 = .string (sB t5) := (hdep 14 36 (by kernel_rfl) (by kernel_rfl)).1
          have a39 : ev 39 = .string (sB (Q.textL x.n x.d)) := (hdep 17 39 (by kernel_rfl) (by kernel_rfl)).1
          clear hdep hfree
          try dsimp only
          simp [OpRuns, execOp, evalOf, a36, a39, v6, go_sem]
          first | exact ⟨hI, rfl, fun e => absurd e (by decide)⟩ | exact ⟨hI, rfl⟩ | exact hI
        case o19 =>
          intro ev w8 hI hdep hfree
          have a40 : ev 40 = .string (sB (wdP x)) := (hdep 18 40 (by kernel_rfl) (by kernel_rfl)).1
          clear hdep hfree
          try dsimp only
          simp [OpRuns, execOp, evalOf, a40, go_sem]
          exact ⟨hI.alloc (HSZ.out w8 hI) _, PhiTxt.ext (below_one _ _), trivial, fun _ => ⟨_, rfl, HSZ.out w8 hI, Held.new rfl⟩⟩
      case hend =>
        intro a w6 hdf hsz hI hPhi hkept
        replace hdf : a.defers = [] := hdf
        replace hsz : a.tmps.size = 46 := hsz
        have x22 : a.tmps.getD 22 undef = uv := (hPhi 0 22 (by omega) (by kernel_rfl)).1
        obtain ⟨h41, x41, hE41, HH41⟩ := (hPhi 19 41 (by omega) (by kernel_rfl)).2 rfl
        have x0 : a.tmps.getD 0 undef = Value.slice (some { block := g, off := o }) L.length c := hkept 0 (kept_of (by kernel_rfl))
        have x1 : a.tmps.getD 1 undef = undef := hkept 1 (kept_of (by kernel_rfl))
        have x2 : a.tmps.getD 2 undef = Value.string { data := #[] } := hkept 2 (kept_of (by kernel_rfl))
        have x3 : a.tmps.getD 3 undef = Value.int IntKind.i64 0 := hkept 3 (kept_of (by kernel_rfl))
        have x4 : a.tmps.getD 4 undef = Value.int IntKind.i64 0 := hkept 4 (kept_of (by kernel_rfl))
        have x5 : a.tmps.getD 5 undef = uv := hkept 5 (kept_of (by kernel_rfl))
        have x6 : a.tmps.getD 6 undef = undef := hkept 6 (kept_of (by kernel_rfl))
        have x7 : a.tmps.getD 7 undef = Value.pointer (some { block := X, off := 0 }) := hkept 7 (kept_of (by kernel_rfl))
        have x8 : a.tmps.getD 8 undef = Value.slice (some { block := g, off := o }) L.length c := hkept 8 (kept_of (by kernel_rfl))
        have x9 : a.tmps.getD 9 undef = Value.int IntKind.i64 0 := hkept 9 (kept_of (by kernel_rfl))
        have x10 : a.tmps.getD 10 undef = Value.int IntKind.i64 0 := hkept 10 (kept_of (by kernel_rfl))
        have x11 : a.tmps.getD 11 undef = Value.bool false := hkept 11 (kept_of (by kernel_rfl))
        have x12 : a.tmps.getD 12 undef = undef := hkept 12 (kept_of (by kernel_rfl))
        have x13 : a.tmps.getD 13 undef = Value.slice (some { block := g, off := o }) L.length c := hkept 13 (kept_of (by kernel_rfl))
        have x14 : a.tmps.getD 14 undef = Value.int IntKind.i64 (↑L.length : Int) := hkept 14 (kept_of (by kernel_rfl))
        have x15 : a.tmps.getD 15 undef = Value.bool false := hkept 15 (kept_of (by kernel_rfl))
        have x16 : a.tmps.getD 16 undef = Value.slice (some { block := g, off := o }) L.length c := hkept 16 (kept_of (by kernel_rfl))
        have x17 : a.tmps.getD 17 undef = Value.int IntKind.i64 (↑L.length : Int) := hkept 17 (kept_of (by kernel_rfl))
        have x18 : a.tmps.getD 18 undef = Value.int IntKind.i64 (↑k : Int) := hkept 18 (kept_of (by kernel_rfl))
        have x19 : a.tmps.getD 19 undef = Value.bool true := hkept 19 (kept_of (by kernel_rfl))
        have x20 : a.tmps.getD 20 undef = Value.pointer (some { block := g, off := o + k * 5 }) := hkept 20 (kept_of (by kernel_rfl))
        have x21 : a.tmps.getD 21 undef = Value.agg #[Value.int IntKind.i64 x.i, Value.int IntKind.i64 x.o, Value.int IntKind.i64 x.t, Value.int IntKind.i64 x.n, Value.int IntKind.i64 x.d] := hkept 21 (kept_of (by kernel_rfl))
        have x42 : a.tmps.getD 42 undef = u42 := hkept 42 (kept_of (by kernel_rfl))
        have x43 : a.tmps.getD 43 undef = u43 := hkept 43 (kept_of (by kernel_rfl))
        have x44 : a.tmps.getD 44 undef = undef := hkept 44 (kept_of (by kernel_rfl))
        have x45 : a.tmps.getD 45 undef = undef := hkept 45 (kept_of (by kernel_rfl))
        have ea := act_lit hsz hdf
        simp only [getDs] at ea
        rw [x22, x41, x0, x1, x2, x3, x4, x5, x6, x7, x8, x9, x10, x11, x12, x13, x14, x15, x16, x17, x18, x19, x20, x21, x42, x43, x44, x45] at ea
        rw [ea]
        clear ea x22 x41 x0 x1 x2 x3 x4 x5 x6 x7 x8 x9 x10 x11 x12 x13 x14 x15 x16 x17 x18 x19 x20 x21 x42 x43 x44 x45 hPhi hkept hdf hsz
        generalize a.tmps.getD 23 undef = u23
        generalize a.tmps.getD 24 undef = u24
        generalize a.tmps.getD 25 undef = u25
        generalize a.tmps.getD 26 undef = u26
        generalize a.tmps.getD 27 undef = u27
        generalize a.tmps.getD 28 undef = u28
        generalize a.tmps.getD 29 undef = u29
        generalize a.tmps.getD 30 undef = u30
        generalize a.tmps.getD 31 undef = u31
        generalize a.tmps.getD 32 undef = u32
        generalize a.tmps.getD 33 undef = u33
        generalize a.tmps.getD 34 undef = u34
        generalize a.tmps.getD 35 undef = u35
        generalize a.tmps.getD 36 undef = u36
        generalize a.tmps.getD 37 undef = u37
        generalize a.tmps.getD 38 undef = u38
        generalize a.tmps.getD 39 undef = u39
        generalize a.tmps.getD 40 undef = u40
        clear a
        have hszE : E ≤ w6.heap.size := HSZ.out w6 hI
        have HO6 := Lib.hid (HOX.out w6 hI)
        have G6 := Lib.hid (show Below B w w6 from G5.out.trans (hI.mono hEB))
        have hBw6 : B ≤ w6.heap.size := by omega
        have n0 := HH41.cell 0
        clear hI HO5 G5 z0 z1 z2 z3 z4 HH41 v1 v2 v3 v4 v5 v6
        simp only [List.drop_succ_cons, List.drop_zero]
        go_loud (refine wpList_append_lies _ rfl _ _ 53 rfl B 9 i0 (.string ⟨#[]⟩) 1 16 Tryz.underlying53 HI0.out.1 HI0.out.2.1 HI0.out.2.2.1 HI0.out.2.2.2 rfl (by decide) uv k _ rfl HO6.out ⟨h41, 0, none⟩ 1 1 [.string (sB (wdP x))] rfl rfl (CellsAt.all ⟨n0, trivial⟩) (by simp [Value.oneCell']) (by omega) (by simp only [maxLen]; omega) (by omega) hBw6 _ rfl ?_)
        intro g' cap' w7 ho hgr hat hlt7
        have G7 := Lib.hid (show Below B w w7 from G6.out.grown hgr hBw6 (fun k e => (HO6.out.lt k e).1))
        have HO7 := Lib.hid (show w7.ownsRow B 9 1 (.slice (some ⟨g', 0, none⟩) (k + 1) cap') (k + 1) ((L.take (k + 1)).map (fun s => Value.string (sB (wdP s)))) by rw [pwd_step HX.out]; exact ho)
        clear ho hgr hat hlt7 n0
        go_wp2_with fail
        go_roundw
        case rel => exact ⟨k + 1, _, rfl, by omega, by go_num, HO7, G7⟩
        case measure => simp [intOf]; omega

    · obtain rfl : k = L.length := by omega
      rw [List.take_length] at HO
      obtain ⟨g, cap, hv, hgB, hgl⟩ := HO.out.form he
      obtain ⟨A2, c2, hv2, hr2, hc2, hc3, _⟩ := row_of_own HO.out
      subst hv
      cases hv2
      have hcells : ∀ (j : Nat) x, (L.map (fun s => sB (wdP s)))[j]? = some x → wr.cell? ⟨g, 0 + j, none⟩ = some (.string x) := by
        intro j x hj
        obtain ⟨b, o, hA, hc⟩ := hr2 j (.string x) (by rw [List.getElem?_map] at hj ⊢; cases hLj : L[j]? with
          | none => rw [hLj] at hj; cases hj
          | some y => rw [hLj] at hj; simp at hj ⊢; exact hj)
        cases hA
        exact hc
      have HCC := Lib.hid hcells
      clear hcells hr2 HO hlt
      go_wp2_with fail
      have hmap : (L.map (fun s => sB (wdP s))).map (·.data.toList) = L.map wdP := by simp [sB, Function.comp_def]
      have hsj := Tryz.strings_Join g 0 cap (L.map (fun s => sB (wdP s))) ⟨#[32]⟩ wr HCC.out hgl (by simp; omega) (by simpa using hc2) (by rw [hmap]; have := HJB.out; show (Lib.join (L.map wdP) [32]).length ≤ _; omega)
      rw [hmap, List.length_map] at hsj
      refine hsj.mono ?_
      rintro e w' ⟨rfl, hb'⟩
      have hbf := Lib.hid (G.out.trans (hb'.mono hsz))
      clear hb' hmap hsj
      go_wp2_with fail
      go_ret2
      exact ⟨by rw [HTX.out]; rfl, hbf.out⟩
theorem textp_any (A : Option Addr) (c : Nat) (L : List Pc) (w : World) (h : PcAt w A L) (hf : Frp L) (hl : L.length ≤ 1000000) (ht : Tab w) :
    Calls Tryz.prog 14 #[.slice A L.length c] w (TextP (txtP L) w) := by
  by_cases h0 : chkP L = 0
  · by_cases he : L.length = 0
    · have e : txtP L = ([45], 0) := by unfold txtP; rw [if_pos h0, if_pos he]
      rw [e]
      have heb : ((L.length : Int) == 0) = true := by rw [he]; rfl
      have HC := Lib.hid (chkp_any A c L w h hf (by omega))
      rw [h0] at HC
      unfold TextP
      obtain ⟨B, hB⟩ : ∃ B, B = w.heap.size := ⟨_, rfl⟩
      rw [← hB] at HC ⊢
      clear h hf h0 e ht hB he
      go_enter Tryz.func14, Tryz.ntmps14
      go_wp2_with fail
      refine HC.out.mono ?_
      rintro e w1 ⟨rfl, hb⟩
      have G1 := Lib.hid hb
      clear hb HC
      go_wp2_with fail
      go_ret2
      exact ⟨rfl, G1.out⟩
    · have e : txtP L = (Lib.join (L.map wdP) [32], 0) := by unfold txtP; rw [if_pos h0, if_neg he]
      rw [e]
      exact textp_some A c L w h hf h0 (by omega) ht
  · rw [show txtP L = ([], chkP L) by unfold txtP; rw [if_neg h0]]
    have HC := Lib.hid (chkp_any A c L w h hf (by omega))
    obtain ⟨R, hR⟩ : ∃ R, R = chkP L := ⟨_, rfl⟩
    unfold TextP
    obtain ⟨B, hB⟩ : ∃ B, B = w.heap.size := ⟨_, rfl⟩
    rw [← hB] at HC ⊢
    rw [← hR] at HC h0 ⊢
    have h0b : (R == 0) = false := by simpa using h0
    clear h hf ht hB hR
    go_enter Tryz.func14, Tryz.ntmps14
    go_wp2_with fail
    refine HC.out.mono ?_
    rintro e w1 ⟨rfl, hb⟩
    have G1 := Lib.hid hb
    clear hb HC
    go_wp2_with fail
    go_ret2
    exact ⟨rfl, G1.out⟩
end Go.Proofs.YteojlodcafogaaaGreatDoor
