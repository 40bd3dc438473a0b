/-
  The contract of Text in the reference. Its conditions are its hypotheses.
-/
import Derived.Test.YteojlodcafogaaaGreatDoorBj
import Derived.Test.YteojlodcafogaaaGreatDoorBk
import Derived.Test.YteojlodcafogaaaGreatDoorBc
namespace Go.Proofs.YteojlodcafogaaaGreatDoor
open Go.RowKit Go.Joins
set_option linter.unusedVariables false
set_option linter.unusedSimpArgs false
def accP (L : List Pc) (k : Nat) : List UInt8 := Lib.join ((L.take k).map wdP) [32]
theorem pjoin_snoc : ∀ (ws : List (List UInt8)) (w : List UInt8), ws ≠ [] → Lib.join (ws ++ [w]) [32] = Lib.join ws [32] ++ [32] ++ w
  | [], _, h => absurd rfl h
  | [a], w, _ => by
    rw [List.singleton_append, pjoin_two, Lib.join_one, Lib.join_one]
  | a :: b :: r, w, _ => by
    have ih := pjoin_snoc (b :: r) w (by simp)
    rw [List.cons_append, List.cons_append, pjoin_two, pjoin_two]
    rw [List.cons_append] at ih
    rw [ih]
    simp [List.append_assoc]
theorem accP_zero {L : List Pc} {x : Pc} (hk : L[0]? = some x) : accP L 1 = wdP x := by
  cases L with
  | nil => cases hk
  | cons y r =>
    have e : y = x := Option.some.inj hk
    subst e
    show Lib.join [wdP y] [32] = _
    exact Lib.join_one _ _
theorem accP_succ {L : List Pc} {k : Nat} {x : Pc} (hk : L[k]? = some x) (h0 : 0 < k) : accP L (k + 1) = accP L k ++ [32] ++ wdP x := by
  unfold accP
  rw [List.take_add_one, hk, List.map_append]
  refine pjoin_snoc _ _ (fun e => ?_)
  have hl := (List.getElem?_eq_some_iff.1 hk).1
  have := congrArg List.length e
  simp only [List.length_map, List.length_take, List.length_nil] at this
  omega
theorem accP_len {L : List Pc} (h : chkP L = 0) (k : Nat) : (accP L k).length ≤ 7040 := by
  obtain ⟨h1, h2, _⟩ := chkP_ok.1 h
  have := pjoin_bd (L := L.take k) (fun p hp => h2 p (List.mem_of_mem_take hp))
  have h3 : (L.take k).length ≤ L.length := by rw [List.length_take]; omega
  unfold accP
  omega
theorem accP_all (L : List Pc) : accP L L.length = Lib.join (L.map wdP) [32] := by unfold accP; rw [List.take_length]
theorem decp_any (n : Int) (w : World) (h0 : 0 ≤ n) (h1 : n ≤ 5184000) :
    Calls Tryz.prog 40 #[.int .i64 n] w fun e w' => e = .returned (.string (sB (Lib.itoa n))) ∧ Below w.heap.size w w' := decimal_any n w (by omega) (by omega)
def PhiTxrY (Z : ByteArray) (x : Pc) (X : Nat) (t1 t2 t3 t4 t5 K : List UInt8) : Nat → Value → Prop
  | 27, v => v = .string Z
  | 28, v => v = .pointer (some ⟨X, 0, none⟩)
  | 29, v => v = .int .i64 x.i
  | 30, v => v = .string (sB (Lib.itoa x.i))
  | 31, v => v = .string (sB t1)
  | 32, v => v = .pointer (some ⟨X, 1, none⟩)
  | 33, v => v = .int .i64 x.o
  | 34, v => v = .string (sB (Lib.itoa x.o))
  | 35, v => v = .string (sB t2)
  | 36, v => v = .string (sB t3)
  | 37, v => v = .pointer (some ⟨X, 2, none⟩)
  | 38, v => v = .int .i64 x.t
  | 39, v => v = .string (sB (Lib.itoa x.t))
  | 40, v => v = .string (sB t4)
  | 41, v => v = .string (sB t5)
  | 42, v => v = .pointer (some ⟨X, 3, none⟩)
  | 43, v => v = rtA x.n x.d
  | 44, v => v = .string (sB (Q.textL x.n x.d))
  | 45, v => v = .string (sB (wdP x))
  | 46, v => v = .string (sB K)
  | _, _ => True
def PhiTxr (Z : ByteArray) (x : Pc) (X : Nat) (t1 t2 t3 t4 t5 K : List UInt8) (E : Nat) (sl : Nat) (v : Value) (w : World) : Prop := PhiTxrY Z x X t1 t2 t3 t4 t5 K sl v
theorem PhiTxr.ext {Z : ByteArray} {x : Pc} {X : Nat} {t1 t2 t3 t4 t5 K : List UInt8} {E : Nat} {w w' : World} (hb : Below w.heap.size w w') : ∀ sl v, PhiTxr Z x X t1 t2 t3 t4 t5 K E sl v w → PhiTxr Z x X t1 t2 t3 t4 t5 K E sl v w' := fun sl v h => h
set_option maxRecDepth 100000 in
set_option maxHeartbeats 4000000 in
theorem textpr_some (A : Option Addr) (c : Nat) (L : List Pc) (w : World) (h : PcAt w A L) (hf : Frp L) (h0 : chkP L = 0) (he : 0 < L.length) :
    Calls Tryz.prog 15 #[.slice A L.length c] w (TextP (Lib.join (L.map wdP) [32], 0) w) := by
  have H := Lib.hid h
  have heb : ((L.length : Int) == 0) = false := by rw [beq_eq_false_iff_ne]; omega
  have hlen := (chkP_ok.1 h0).1
  have HC := Lib.hid (chkpr_any A c L w h hf (by omega))
  rw [h0] at HC
  have HBD := Lib.hid (chkP_ok.1 h0).2.1
  have HAL := Lib.hid (fun k => accP_len h0 k)
  obtain ⟨T, hT⟩ : ∃ T, T = Lib.join (L.map wdP) [32] := ⟨_, rfl⟩
  rw [← hT]
  have HTX := Lib.hid (hT.trans (accP_all L).symm)
  obtain ⟨B, hB⟩ : ∃ B, B = w.heap.size := ⟨_, rfl⟩
  have HB := Lib.hid hB
  unfold TextP
  rw [← hB] at HC ⊢
  clear h hf h0 hT hB
  go_enter Tryz.func15, Tryz.ntmps15
  go_wp2_with fail
  refine HC.out.mono ?_
  rintro e w1 ⟨rfl, hb⟩
  have G1 := Lib.hid hb
  clear hb HC
  go_wp2_with fail
  go_loopw [5, 18] (fun v i wr => ∃ k : Nat, k ≤ L.length ∧ v = .string (sB (accP L k)) ∧ i = .int .i64 k ∧ Hid (Below B w wr)) (fun _ i _ => L.length - (intOf i).toNat)
  case atStart => exact ⟨0, by omega, rfl, rfl, G1⟩
  case round =>
    obtain ⟨k, hk, rfl, rfl, G⟩ := hrel
    have hsz : B ≤ wr.heap.size := by have := G.out.size; have := HB.out; omega
    by_cases hlt : k < L.length
    · have hlt2 : (k : Int) < (L.length : Int) := by omega
      obtain ⟨x, hx⟩ : ∃ x, L[k]? = some x := ⟨_, List.getElem?_eq_getElem hlt⟩
      have HX := Lib.hid hx
      have HRw := H.out.ext (HB.out ▸ G.out)
      obtain ⟨g, o, rfl⟩ := PcAt.some HRw hx
      obtain ⟨q0, q1, q2, q3, q4⟩ := PcAt.get HRw hx
      have HXB := Lib.hid (HBD.out x (List.mem_of_getElem? hx))
      have l6 := HAL.out k
      obtain ⟨P, hP⟩ : ∃ P, P = (if k = 0 then [] else accP L k ++ [32]) := ⟨_, rfl⟩
      have HST := Lib.hid (show accP L (k + 1) = P ++ wdP x by
        rw [hP]
        by_cases h00 : k = 0
        · subst h00
          rw [if_pos rfl, accP_zero HX.out]
          rfl
        · rw [if_neg h00, accP_succ HX.out (by omega)])
      have hPl : P.length ≤ 7041 := by rw [hP]; split <;> simp <;> omega
      obtain ⟨x0, x1, x2, x3, x4, x5, x6, x7, x8, x9, xa⟩ := sgl_bd HXB.out
      have l1 := itoa_le7 x0 x1
      have l2 := itoa_le7 x2 x3
      have l3 := itoa_le7 x4 x5
      have l4 := wdA_le HXB.out
      have l5 := txt_le x6 x7 x8 x9 xa
      have l7 := wdP_le HXB.out
      have HFI := Lib.hid (fun W => decp_any x.i W x0 x1)
      have HFO := Lib.hid (fun W => decp_any x.o W x2 x3)
      have HFT := Lib.hid (fun W => decp_any x.t W x4 x5)
      have HFR := Lib.hid (fun W => (show Calls Tryz.prog 41 #[rtA x.n x.d] W (fun e w' => e = .returned (.string (sB (Q.textL x.n x.d))) ∧ Below W.heap.size W w') from Q.textr_any x.n x.d W ⟨by omega, by omega⟩ ⟨by omega, by omega⟩))
      have y0 : ∀ w', (Op.stringOp .add (sB (accP L k)) ⟨#[32]⟩).run Tryz.prog w' = .ok (.string (sB (accP L k ++ [32]))) w' := fun w' => add_sB (a := accP L k) (b := [32]) (by simp; omega) w'
      have y1 : ∀ w', (Op.stringOp .add (sB (Lib.itoa x.i)) ⟨#[45]⟩).run Tryz.prog w' = .ok (.string (sB (Lib.itoa x.i ++ [45]))) w' := fun w' => add_sB (a := Lib.itoa x.i) (b := [45]) (by simp; omega) w'
      have y2 : ∀ w', (Op.stringOp .add (sB (Lib.itoa x.i ++ [45])) (sB (Lib.itoa x.o))).run Tryz.prog w' = .ok (.string (sB (wdA x))) w' := fun w' => add_sB (by simp; omega) w'
      have y3 : ∀ w', (Op.stringOp .add (sB (wdA x)) ⟨#[62]⟩).run Tryz.prog w' = .ok (.string (sB (wdA x ++ [62]))) w' := fun w' => add_sB (a := wdA x) (b := [62]) (by simp; omega) w'
      have y4 : ∀ w', (Op.stringOp .add (sB (wdA x ++ [62])) (sB (Lib.itoa x.t))).run Tryz.prog w' = .ok (.string (sB (wdA x ++ [62] ++ Lib.itoa x.t))) w' := fun w' => add_sB (by simp; omega) w'
      have y5 : ∀ w', (Op.stringOp .add (sB (wdA x ++ [62] ++ Lib.itoa x.t)) ⟨#[42]⟩).run Tryz.prog w' = .ok (.string (sB (wdA x ++ [62] ++ Lib.itoa x.t ++ [42]))) w' := fun w' => add_sB (a := wdA x ++ [62] ++ Lib.itoa x.t) (b := [42]) (by simp; omega) w'
      have y6 : ∀ w', (Op.stringOp .add (sB (wdA x ++ [62] ++ Lib.itoa x.t ++ [42])) (sB (Q.textL x.n x.d))).run Tryz.prog w' = .ok (.string (sB (wdP x))) w' := fun w' => (wdP_assoc x) ▸ add_sB (by simp; omega) w'
      have v7 : ∀ w', (Op.stringOp .add (sB P) (sB (wdP x))).run Tryz.prog w' = .ok (.string (sB (P ++ wdP x))) w' := fun w' => add_sB (by omega) w'
      obtain ⟨t1, t2, t3, t4, t5, v1, v2, v3, v4, v5, v6⟩ : ∃ t1 t2 t3 t4 t5, (∀ w', (Op.stringOp .add (sB (Lib.itoa x.i)) ⟨#[45]⟩).run Tryz.prog w' = .ok (.string (sB t1)) w') ∧ (∀ w', (Op.stringOp .add (sB t1) (sB (Lib.itoa x.o))).run Tryz.prog w' = .ok (.string (sB t2)) w') ∧ (∀ w', (Op.stringOp .add (sB t2) ⟨#[62]⟩).run Tryz.prog w' = .ok (.string (sB t3)) w') ∧ (∀ w', (Op.stringOp .add (sB t3) (sB (Lib.itoa x.t))).run Tryz.prog w' = .ok (.string (sB t4)) w') ∧ (∀ w', (Op.stringOp .add (sB t4) ⟨#[42]⟩).run Tryz.prog w' = .ok (.string (sB t5)) w') ∧ (∀ w', (Op.stringOp .add (sB t5) (sB (Q.textL x.n x.d))).run Tryz.prog w' = .ok (.string (sB (wdP x))) w') := ⟨_, _, _, _, _, y1, y2, y3, y4, y5, y6⟩
      have HP := Lib.hid hP
      obtain ⟨K, hK⟩ : ∃ K, K = accP L (k + 1) := ⟨_, rfl⟩
      have HKK := Lib.hid hK
      rw [← HST.out, ← hK] at v7
      clear y1 y2 y3 y4 y5 y6 HRw hx l1 l2 l3 l4 l5 l6 l7 x0 x1 x2 x3 x4 x5 x6 x7 x8 x9 xa hP hPl hK
      by_cases h00 : k = 0
      · have hk0 : ¬ ((0 : Int) < (k : Int)) := by omega
        have hpe : P = [] := by rw [HP.out, if_pos h00]
        have hae : sB (accP L k) = sB P := by rw [hpe, h00]; rfl
        rw [← hae] at v7
        obtain ⟨Z, hZ⟩ : ∃ Z, Z = sB (accP L k) := ⟨_, rfl⟩
        rw [← hZ] at v7
        rw [← hZ]
        clear h00 hpe hae y0 hZ
        go_wp2_with fail
        generalize hw5 : World.alloc wr _ = w5
        have F5 : Held w5 wr.heap.size (pcV x) := by subst hw5; exact Held.new rfl
        obtain ⟨z0, z1, z2, z3, z4⟩ := five_of F5
        have G5 := Lib.hid (show Below B w w5 by subst hw5; exact G.out.alloc hsz _)
        have hX5 := F5.lt
        generalize wr.heap.size = X at *
        clear hw5 q0 q1 q2 q3 q4 G F5
        obtain ⟨E, hE⟩ : ∃ E, E = w5.heap.size := ⟨_, rfl⟩
        have hEB : B ≤ E := by rw [hE]; have := G5.out.size; have := HB.out; omega
        have hXE : X < E := by omega
        have HSZ := Lib.hid (fun W (hW : Below E w5 W) => show E ≤ W.heap.size by have := hW.size; omega)
        clear hE
        refine wp_region_spec_tail 20 (by kernel_rfl) (fun w' => Below E w5 w') (PhiTxr Z x X t1 t2 t3 t4 t5 K E) 49 rfl (by kernel_rfl) (by kernel_rfl) (by kernel_rfl) (by kernel_rfl) (by kernel_rfl) (Below.refl _ _).drew ?hops ?hend
        case hops =>
          refine ⟨?o0, ?o1, ?o2, ?o3, ?o4, ?o5, ?o6, ?o7, ?o8, ?o9, ?o10, ?o11, ?o12, ?o13, ?o14, ?o15, ?o16, ?o17, ?o18, ?o19, trivial⟩
          case o0 =>
            intro ev w8 hI hdep hfree
            have a5 : ev 5 = Value.string Z := hfree 5 (by kernel_rfl)
            clear hdep hfree
            try dsimp only
            simp [OpRuns, execOp, evalOf, a5, go_sem]
            first | exact ⟨hI, rfl⟩ | exact ⟨hI, rfl⟩ | exact hI
          case o1 =>
            intro ev w8 hI hdep hfree
            have a7 : ev 7 = Value.pointer (some { block := X, off := 0 }) := hfree 7 (by kernel_rfl)
            clear hdep hfree
            try dsimp only
            simp [OpRuns, execOp, evalOf, a7, go_sem]
            first | exact ⟨hI, rfl⟩ | exact ⟨hI, rfl⟩ | exact hI
          case o2 =>
            intro ev w8 hI hdep hfree
            have a28 : ev 28 = .pointer (some ⟨X, 0, none⟩) := (hdep 1 28 (by kernel_rfl) (by kernel_rfl))
            clear hdep hfree
            have y0 : w8.cell? ⟨X, 0, none⟩ = some (.int .i64 x.i) := (hI.cell (p := ⟨X, 0, none⟩) hXE).trans z0
            try dsimp only
            simp [OpRuns, execOp, evalOf, a28, y0, go_sem]
            first | exact ⟨hI, rfl⟩ | exact ⟨hI, rfl⟩ | exact hI
          case o3 =>
            intro ev w8 hI hdep hfree
            have a29 : ev 29 = .int .i64 x.i := (hdep 2 29 (by kernel_rfl) (by kernel_rfl))
            clear hdep hfree
            try dsimp only
            refine runs_call (f := 40) (args := #[.int .i64 x.i]) (by simp [execOp, evalOf, resolve, invoke, a29, go_sem]) ((HFI.out w8).mono ?_)
            rintro e w9 ⟨he, hb⟩
            exact ⟨_, he, hI.trans (hb.mono (HSZ.out w8 hI)), PhiTxr.ext hb, fun d hd => by cases hd; exact rfl⟩
          case o4 =>
            intro ev w8 hI hdep hfree
            have a30 : ev 30 = .string (sB (Lib.itoa x.i)) := (hdep 3 30 (by kernel_rfl) (by kernel_rfl))
            clear hdep hfree
            try dsimp only
            simp [OpRuns, execOp, evalOf, a30, v1, go_sem]
            first | exact ⟨hI, rfl⟩ | exact ⟨hI, rfl⟩ | exact hI
          case o5 =>
            intro ev w8 hI hdep hfree
            have a7 : ev 7 = Value.pointer (some { block := X, off := 0 }) := hfree 7 (by kernel_rfl)
            clear hdep hfree
            try dsimp only
            simp [OpRuns, execOp, evalOf, a7, go_sem]
            first | exact ⟨hI, rfl⟩ | exact ⟨hI, rfl⟩ | exact hI
          case o6 =>
            intro ev w8 hI hdep hfree
            have a32 : ev 32 = .pointer (some ⟨X, 1, none⟩) := (hdep 5 32 (by kernel_rfl) (by kernel_rfl))
            clear hdep hfree
            have y0 : w8.cell? ⟨X, 1, none⟩ = some (.int .i64 x.o) := (hI.cell (p := ⟨X, 1, none⟩) hXE).trans z1
            try dsimp only
            simp [OpRuns, execOp, evalOf, a32, y0, go_sem]
            first | exact ⟨hI, rfl⟩ | exact ⟨hI, rfl⟩ | exact hI
          case o7 =>
            intro ev w8 hI hdep hfree
            have a33 : ev 33 = .int .i64 x.o := (hdep 6 33 (by kernel_rfl) (by kernel_rfl))
            clear hdep hfree
            try dsimp only
            refine runs_call (f := 40) (args := #[.int .i64 x.o]) (by simp [execOp, evalOf, resolve, invoke, a33, go_sem]) ((HFO.out w8).mono ?_)
            rintro e w9 ⟨he, hb⟩
            exact ⟨_, he, hI.trans (hb.mono (HSZ.out w8 hI)), PhiTxr.ext hb, fun d hd => by cases hd; exact rfl⟩
          case o8 =>
            intro ev w8 hI hdep hfree
            have a31 : ev 31 = .string (sB t1) := (hdep 4 31 (by kernel_rfl) (by kernel_rfl))
            have a34 : ev 34 = .string (sB (Lib.itoa x.o)) := (hdep 7 34 (by kernel_rfl) (by kernel_rfl))
            clear hdep hfree
            try dsimp only
            simp [OpRuns, execOp, evalOf, a31, a34, v2, go_sem]
            first | exact ⟨hI, rfl⟩ | exact ⟨hI, rfl⟩ | exact hI
          case o9 =>
            intro ev w8 hI hdep hfree
            have a35 : ev 35 = .string (sB t2) := (hdep 8 35 (by kernel_rfl) (by kernel_rfl))
            clear hdep hfree
            try dsimp only
            simp [OpRuns, execOp, evalOf, a35, v3, go_sem]
            first | exact ⟨hI, rfl⟩ | exact ⟨hI, rfl⟩ | exact hI
          case o10 =>
            intro ev w8 hI hdep hfree
            have a7 : ev 7 = Value.pointer (some { block := X, off := 0 }) := hfree 7 (by kernel_rfl)
            clear hdep hfree
            try dsimp only
            simp [OpRuns, execOp, evalOf, a7, go_sem]
            first | exact ⟨hI, rfl⟩ | exact ⟨hI, rfl⟩ | exact hI
          case o11 =>
            intro ev w8 hI hdep hfree
            have a37 : ev 37 = .pointer (some ⟨X, 2, none⟩) := (hdep 10 37 (by kernel_rfl) (by kernel_rfl))
            clear hdep hfree
            have y0 : w8.cell? ⟨X, 2, none⟩ = some (.int .i64 x.t) := (hI.cell (p := ⟨X, 2, none⟩) hXE).trans z2
            try dsimp only
            simp [OpRuns, execOp, evalOf, a37, y0, go_sem]
            first | exact ⟨hI, rfl⟩ | exact ⟨hI, rfl⟩ | exact hI
          case o12 =>
            intro ev w8 hI hdep hfree
            have a38 : ev 38 = .int .i64 x.t := (hdep 11 38 (by kernel_rfl) (by kernel_rfl))
            clear hdep hfree
            try dsimp only
            refine runs_call (f := 40) (args := #[.int .i64 x.t]) (by simp [execOp, evalOf, resolve, invoke, a38, go_sem]) ((HFT.out w8).mono ?_)
            rintro e w9 ⟨he, hb⟩
            exact ⟨_, he, hI.trans (hb.mono (HSZ.out w8 hI)), PhiTxr.ext hb, fun d hd => by cases hd; exact rfl⟩
          case o13 =>
            intro ev w8 hI hdep hfree
            have a36 : ev 36 = .string (sB t3) := (hdep 9 36 (by kernel_rfl) (by kernel_rfl))
            have a39 : ev 39 = .string (sB (Lib.itoa x.t)) := (hdep 12 39 (by kernel_rfl) (by kernel_rfl))
            clear hdep hfree
            try dsimp only
            simp [OpRuns, execOp, evalOf, a36, a39, v4, go_sem]
            first | exact ⟨hI, rfl⟩ | exact ⟨hI, rfl⟩ | exact hI
          case o14 =>
            intro ev w8 hI hdep hfree
            have a40 : ev 40 = .string (sB t4) := (hdep 13 40 (by kernel_rfl) (by kernel_rfl))
            clear hdep hfree
            try dsimp only
            simp [OpRuns, execOp, evalOf, a40, v5, go_sem]
            first | exact ⟨hI, rfl⟩ | exact ⟨hI, rfl⟩ | exact hI
          case o15 =>
            intro ev w8 hI hdep hfree
            have a7 : ev 7 = Value.pointer (some { block := X, off := 0 }) := hfree 7 (by kernel_rfl)
            clear hdep hfree
            try dsimp only
            simp [OpRuns, execOp, evalOf, a7, go_sem]
            first | exact ⟨hI, rfl⟩ | exact ⟨hI, rfl⟩ | exact hI
          case o16 =>
            intro ev w8 hI hdep hfree
            have a42 : ev 42 = .pointer (some ⟨X, 3, none⟩) := (hdep 15 42 (by kernel_rfl) (by kernel_rfl))
            clear hdep hfree
            have y0 : w8.cell? ⟨X, 3, none⟩ = some (.int .i64 x.n) := (hI.cell (p := ⟨X, 3, none⟩) hXE).trans z3
            have y1 : w8.cell? ⟨X, 4, none⟩ = some (.int .i64 x.d) := (hI.cell (p := ⟨X, 4, none⟩) hXE).trans z4
            try dsimp only
            simp [OpRuns, execOp, evalOf, a42, y0, y1, go_sem]
            first | exact ⟨hI, rfl⟩ | exact ⟨hI, rfl⟩ | exact hI
          case o17 =>
            intro ev w8 hI hdep hfree
            have a43 : ev 43 = rtA x.n x.d := (hdep 16 43 (by kernel_rfl) (by kernel_rfl))
            clear hdep hfree
            try dsimp only
            refine runs_call (f := 41) (args := #[rtA x.n x.d]) (by simp [execOp, evalOf, resolve, invoke, a43, go_sem]) ((HFR.out w8).mono ?_)
            rintro e w9 ⟨he, hb⟩
            exact ⟨_, he, hI.trans (hb.mono (HSZ.out w8 hI)), PhiTxr.ext hb, fun d hd => by cases hd; exact rfl⟩
          case o18 =>
            intro ev w8 hI hdep hfree
            have a41 : ev 41 = .string (sB t5) := (hdep 14 41 (by kernel_rfl) (by kernel_rfl))
            have a44 : ev 44 = .string (sB (Q.textL x.n x.d)) := (hdep 17 44 (by kernel_rfl) (by kernel_rfl))
            clear hdep hfree
            try dsimp only
            simp [OpRuns, execOp, evalOf, a41, a44, v6, go_sem]
            first | exact ⟨hI, rfl⟩ | exact ⟨hI, rfl⟩ | exact hI
          case o19 =>
            intro ev w8 hI hdep hfree
            have a27 : ev 27 = .string Z := (hdep 0 27 (by kernel_rfl) (by kernel_rfl))
            have a45 : ev 45 = .string (sB (wdP x)) := (hdep 18 45 (by kernel_rfl) (by kernel_rfl))
            clear hdep hfree
            try dsimp only
            simp [OpRuns, execOp, evalOf, a27, a45, v7, go_sem]
            first | exact ⟨hI, rfl⟩ | exact ⟨hI, rfl⟩ | exact hI
        case hend =>
          intro a w6 hdf hsz hI hPhi hkept
          replace hdf : a.defers = [] := hdf
          replace hsz : a.tmps.size = 49 := hsz
          have x46 : a.tmps.getD 46 undef = .string (sB K) := (hPhi 19 46 (by omega) (by kernel_rfl))
          have x0 : a.tmps.getD 0 undef = Value.slice (some { block := g, off := o }) L.length c := hkept 0 (kept_of (by kernel_rfl))
          have x1 : a.tmps.getD 1 undef = undef := hkept 1 (kept_of (by kernel_rfl))
          have x2 : a.tmps.getD 2 undef = Value.string { data := #[] } := hkept 2 (kept_of (by kernel_rfl))
          have x3 : a.tmps.getD 3 undef = Value.int IntKind.i64 0 := hkept 3 (kept_of (by kernel_rfl))
          have x4 : a.tmps.getD 4 undef = Value.int IntKind.i64 0 := hkept 4 (kept_of (by kernel_rfl))
          have x5 : a.tmps.getD 5 undef = Value.string Z := hkept 5 (kept_of (by kernel_rfl))
          have x6 : a.tmps.getD 6 undef = Value.int IntKind.i64 (↑k : Int) := hkept 6 (kept_of (by kernel_rfl))
          have x7 : a.tmps.getD 7 undef = Value.pointer (some { block := X, off := 0 }) := hkept 7 (kept_of (by kernel_rfl))
          have x8 : a.tmps.getD 8 undef = Value.slice (some { block := g, off := o }) L.length c := hkept 8 (kept_of (by kernel_rfl))
          have x9 : a.tmps.getD 9 undef = Value.int IntKind.i64 0 := hkept 9 (kept_of (by kernel_rfl))
          have x10 : a.tmps.getD 10 undef = Value.int IntKind.i64 0 := hkept 10 (kept_of (by kernel_rfl))
          have x11 : a.tmps.getD 11 undef = Value.bool false := hkept 11 (kept_of (by kernel_rfl))
          have x12 : a.tmps.getD 12 undef = undef := hkept 12 (kept_of (by kernel_rfl))
          have x13 : a.tmps.getD 13 undef = Value.slice (some { block := g, off := o }) L.length c := hkept 13 (kept_of (by kernel_rfl))
          have x14 : a.tmps.getD 14 undef = Value.int IntKind.i64 (↑L.length : Int) := hkept 14 (kept_of (by kernel_rfl))
          have x15 : a.tmps.getD 15 undef = Value.bool false := hkept 15 (kept_of (by kernel_rfl))
          have x16 : a.tmps.getD 16 undef = Value.slice (some { block := g, off := o }) L.length c := hkept 16 (kept_of (by kernel_rfl))
          have x17 : a.tmps.getD 17 undef = Value.int IntKind.i64 (↑L.length : Int) := hkept 17 (kept_of (by kernel_rfl))
          have x18 : a.tmps.getD 18 undef = Value.int IntKind.i64 (↑k : Int) := hkept 18 (kept_of (by kernel_rfl))
          have x19 : a.tmps.getD 19 undef = Value.bool true := hkept 19 (kept_of (by kernel_rfl))
          have x20 : a.tmps.getD 20 undef = Value.int IntKind.i64 (↑k : Int) := hkept 20 (kept_of (by kernel_rfl))
          have x21 : a.tmps.getD 21 undef = Value.pointer (some { block := g, off := o + k * 5 }) := hkept 21 (kept_of (by kernel_rfl))
          have x22 : a.tmps.getD 22 undef = Value.agg #[Value.int IntKind.i64 x.i, Value.int IntKind.i64 x.o, Value.int IntKind.i64 x.t, Value.int IntKind.i64 x.n, Value.int IntKind.i64 x.d] := hkept 22 (kept_of (by kernel_rfl))
          have x23 : a.tmps.getD 23 undef = Value.int IntKind.i64 (↑k : Int) := hkept 23 (kept_of (by kernel_rfl))
          have x24 : a.tmps.getD 24 undef = Value.bool false := hkept 24 (kept_of (by kernel_rfl))
          have x25 : a.tmps.getD 25 undef = u25 := hkept 25 (kept_of (by kernel_rfl))
          have x26 : a.tmps.getD 26 undef = u26 := hkept 26 (kept_of (by kernel_rfl))
          have x47 : a.tmps.getD 47 undef = u47 := hkept 47 (kept_of (by kernel_rfl))
          have x48 : a.tmps.getD 48 undef = undef := hkept 48 (kept_of (by kernel_rfl))
          have ea := act_lit hsz hdf
          simp only [getDs] at ea
          rw [x46, x0, x1, x2, x3, x4, x5, x6, x7, x8, x9, x10, x11, x12, x13, x14, x15, x16, x17, x18, x19, x20, x21, x22, x23, x24, x25, x26, x47, x48] at ea
          rw [ea]
          clear ea x46 x0 x1 x2 x3 x4 x5 x6 x7 x8 x9 x10 x11 x12 x13 x14 x15 x16 x17 x18 x19 x20 x21 x22 x23 x24 x25 x26 x47 x48 hPhi hkept hdf hsz
          generalize a.tmps.getD 27 undef = u27
          generalize a.tmps.getD 28 undef = u28
          generalize a.tmps.getD 29 undef = u29
          generalize a.tmps.getD 30 undef = u30
          generalize a.tmps.getD 31 undef = u31
          generalize a.tmps.getD 32 undef = u32
          generalize a.tmps.getD 33 undef = u33
          generalize a.tmps.getD 34 undef = u34
          generalize a.tmps.getD 35 undef = u35
          generalize a.tmps.getD 36 undef = u36
          generalize a.tmps.getD 37 undef = u37
          generalize a.tmps.getD 38 undef = u38
          generalize a.tmps.getD 39 undef = u39
          generalize a.tmps.getD 40 undef = u40
          generalize a.tmps.getD 41 undef = u41
          generalize a.tmps.getD 42 undef = u42
          generalize a.tmps.getD 43 undef = u43
          generalize a.tmps.getD 44 undef = u44
          generalize a.tmps.getD 45 undef = u45
          clear a
          have G6 := Lib.hid (show Below B w w6 from G5.out.trans (hI.mono hEB))
          clear hI G5 z0 z1 z2 z3 z4 v1 v2 v3 v4 v5 v6 v7
          simp only [List.drop_succ_cons, List.drop_zero]
          go_wp2_with fail
          rw [HKK.out]
          go_roundw
          case rel => exact ⟨k + 1, by omega, rfl, by go_num, G6⟩
          case measure => simp [intOf]; omega

      · have hk0 : (0 : Int) < (k : Int) := by omega
        have hae : accP L k ++ [32] = P := by rw [HP.out, if_neg h00]
        rw [hae] at y0
        obtain ⟨Z, hZ⟩ : ∃ Z, Z = sB P := ⟨_, rfl⟩
        rw [← hZ] at v7 y0
        clear h00 hae hZ
        go_wp2_with fail
        generalize hw5 : World.alloc wr _ = w5
        have F5 : Held w5 wr.heap.size (pcV x) := by subst hw5; exact Held.new rfl
        obtain ⟨z0, z1, z2, z3, z4⟩ := five_of F5
        have G5 := Lib.hid (show Below B w w5 by subst hw5; exact G.out.alloc hsz _)
        have hX5 := F5.lt
        generalize wr.heap.size = X at *
        clear hw5 q0 q1 q2 q3 q4 G F5
        obtain ⟨E, hE⟩ : ∃ E, E = w5.heap.size := ⟨_, rfl⟩
        have hEB : B ≤ E := by rw [hE]; have := G5.out.size; have := HB.out; omega
        have hXE : X < E := by omega
        have HSZ := Lib.hid (fun W (hW : Below E w5 W) => show E ≤ W.heap.size by have := hW.size; omega)
        clear hE
        refine wp_region_spec_tail 20 (by kernel_rfl) (fun w' => Below E w5 w') (PhiTxr Z x X t1 t2 t3 t4 t5 K E) 49 rfl (by kernel_rfl) (by kernel_rfl) (by kernel_rfl) (by kernel_rfl) (by kernel_rfl) (Below.refl _ _).drew ?hops ?hend
        case hops =>
          refine ⟨?o0, ?o1, ?o2, ?o3, ?o4, ?o5, ?o6, ?o7, ?o8, ?o9, ?o10, ?o11, ?o12, ?o13, ?o14, ?o15, ?o16, ?o17, ?o18, ?o19, trivial⟩
          case o0 =>
            intro ev w8 hI hdep hfree
            have a5 : ev 5 = Value.string Z := hfree 5 (by kernel_rfl)
            clear hdep hfree
            try dsimp only
            simp [OpRuns, execOp, evalOf, a5, go_sem]
            first | exact ⟨hI, rfl⟩ | exact ⟨hI, rfl⟩ | exact hI
          case o1 =>
            intro ev w8 hI hdep hfree
            have a7 : ev 7 = Value.pointer (some { block := X, off := 0 }) := hfree 7 (by kernel_rfl)
            clear hdep hfree
            try dsimp only
            simp [OpRuns, execOp, evalOf, a7, go_sem]
            first | exact ⟨hI, rfl⟩ | exact ⟨hI, rfl⟩ | exact hI
          case o2 =>
            intro ev w8 hI hdep hfree
            have a28 : ev 28 = .pointer (some ⟨X, 0, none⟩) := (hdep 1 28 (by kernel_rfl) (by kernel_rfl))
            clear hdep hfree
            have y0 : w8.cell? ⟨X, 0, none⟩ = some (.int .i64 x.i) := (hI.cell (p := ⟨X, 0, none⟩) hXE).trans z0
            try dsimp only
            simp [OpRuns, execOp, evalOf, a28, y0, go_sem]
            first | exact ⟨hI, rfl⟩ | exact ⟨hI, rfl⟩ | exact hI
          case o3 =>
            intro ev w8 hI hdep hfree
            have a29 : ev 29 = .int .i64 x.i := (hdep 2 29 (by kernel_rfl) (by kernel_rfl))
            clear hdep hfree
            try dsimp only
            refine runs_call (f := 40) (args := #[.int .i64 x.i]) (by simp [execOp, evalOf, resolve, invoke, a29, go_sem]) ((HFI.out w8).mono ?_)
            rintro e w9 ⟨he, hb⟩
            exact ⟨_, he, hI.trans (hb.mono (HSZ.out w8 hI)), PhiTxr.ext hb, fun d hd => by cases hd; exact rfl⟩
          case o4 =>
            intro ev w8 hI hdep hfree
            have a30 : ev 30 = .string (sB (Lib.itoa x.i)) := (hdep 3 30 (by kernel_rfl) (by kernel_rfl))
            clear hdep hfree
            try dsimp only
            simp [OpRuns, execOp, evalOf, a30, v1, go_sem]
            first | exact ⟨hI, rfl⟩ | exact ⟨hI, rfl⟩ | exact hI
          case o5 =>
            intro ev w8 hI hdep hfree
            have a7 : ev 7 = Value.pointer (some { block := X, off := 0 }) := hfree 7 (by kernel_rfl)
            clear hdep hfree
            try dsimp only
            simp [OpRuns, execOp, evalOf, a7, go_sem]
            first | exact ⟨hI, rfl⟩ | exact ⟨hI, rfl⟩ | exact hI
          case o6 =>
            intro ev w8 hI hdep hfree
            have a32 : ev 32 = .pointer (some ⟨X, 1, none⟩) := (hdep 5 32 (by kernel_rfl) (by kernel_rfl))
            clear hdep hfree
            have y0 : w8.cell? ⟨X, 1, none⟩ = some (.int .i64 x.o) := (hI.cell (p := ⟨X, 1, none⟩) hXE).trans z1
            try dsimp only
            simp [OpRuns, execOp, evalOf, a32, y0, go_sem]
            first | exact ⟨hI, rfl⟩ | exact ⟨hI, rfl⟩ | exact hI
          case o7 =>
            intro ev w8 hI hdep hfree
            have a33 : ev 33 = .int .i64 x.o := (hdep 6 33 (by kernel_rfl) (by kernel_rfl))
            clear hdep hfree
            try dsimp only
            refine runs_call (f := 40) (args := #[.int .i64 x.o]) (by simp [execOp, evalOf, resolve, invoke, a33, go_sem]) ((HFO.out w8).mono ?_)
            rintro e w9 ⟨he, hb⟩
            exact ⟨_, he, hI.trans (hb.mono (HSZ.out w8 hI)), PhiTxr.ext hb, fun d hd => by cases hd; exact rfl⟩
          case o8 =>
            intro ev w8 hI hdep hfree
            have a31 : ev 31 = .string (sB t1) := (hdep 4 31 (by kernel_rfl) (by kernel_rfl))
            have a34 : ev 34 = .string (sB (Lib.itoa x.o)) := (hdep 7 34 (by kernel_rfl) (by kernel_rfl))
            clear hdep hfree
            try dsimp only
            simp [OpRuns, execOp, evalOf, a31, a34, v2, go_sem]
            first | exact ⟨hI, rfl⟩ | exact ⟨hI, rfl⟩ | exact hI
          case o9 =>
            intro ev w8 hI hdep hfree
            have a35 : ev 35 = .string (sB t2) := (hdep 8 35 (by kernel_rfl) (by kernel_rfl))
            clear hdep hfree
            try dsimp only
            simp [OpRuns, execOp, evalOf, a35, v3, go_sem]
            first | exact ⟨hI, rfl⟩ | exact ⟨hI, rfl⟩ | exact hI
          case o10 =>
            intro ev w8 hI hdep hfree
            have a7 : ev 7 = Value.pointer (some { block := X, off := 0 }) := hfree 7 (by kernel_rfl)
            clear hdep hfree
            try dsimp only
            simp [OpRuns, execOp, evalOf, a7, go_sem]
            first | exact ⟨hI, rfl⟩ | exact ⟨hI, rfl⟩ | exact hI
          case o11 =>
            intro ev w8 hI hdep hfree
            have a37 : ev 37 = .pointer (some ⟨X, 2, none⟩) := (hdep 10 37 (by kernel_rfl) (by kernel_rfl))
            clear hdep hfree
            have y0 : w8.cell? ⟨X, 2, none⟩ = some (.int .i64 x.t) := (hI.cell (p := ⟨X, 2, none⟩) hXE).trans z2
            try dsimp only
            simp [OpRuns, execOp, evalOf, a37, y0, go_sem]
            first | exact ⟨hI, rfl⟩ | exact ⟨hI, rfl⟩ | exact hI
          case o12 =>
            intro ev w8 hI hdep hfree
            have a38 : ev 38 = .int .i64 x.t := (hdep 11 38 (by kernel_rfl) (by kernel_rfl))
            clear hdep hfree
            try dsimp only
            refine runs_call (f := 40) (args := #[.int .i64 x.t]) (by simp [execOp, evalOf, resolve, invoke, a38, go_sem]) ((HFT.out w8).mono ?_)
            rintro e w9 ⟨he, hb⟩
            exact ⟨_, he, hI.trans (hb.mono (HSZ.out w8 hI)), PhiTxr.ext hb, fun d hd => by cases hd; exact rfl⟩
          case o13 =>
            intro ev w8 hI hdep hfree
            have a36 : ev 36 = .string (sB t3) := (hdep 9 36 (by kernel_rfl) (by kernel_rfl))
            have a39 : ev 39 = .string (sB (Lib.itoa x.t)) := (hdep 12 39 (by kernel_rfl) (by kernel_rfl))
            clear hdep hfree
            try dsimp only
            simp [OpRuns, execOp, evalOf, a36, a39, v4, go_sem]
            first | exact ⟨hI, rfl⟩ | exact ⟨hI, rfl⟩ | exact hI
          case o14 =>
            intro ev w8 hI hdep hfree
            have a40 : ev 40 = .string (sB t4) := (hdep 13 40 (by kernel_rfl) (by kernel_rfl))
            clear hdep hfree
            try dsimp only
            simp [OpRuns, execOp, evalOf, a40, v5, go_sem]
            first | exact ⟨hI, rfl⟩ | exact ⟨hI, rfl⟩ | exact hI
          case o15 =>
            intro ev w8 hI hdep hfree
            have a7 : ev 7 = Value.pointer (some { block := X, off := 0 }) := hfree 7 (by kernel_rfl)
            clear hdep hfree
            try dsimp only
            simp [OpRuns, execOp, evalOf, a7, go_sem]
            first | exact ⟨hI, rfl⟩ | exact ⟨hI, rfl⟩ | exact hI
          case o16 =>
            intro ev w8 hI hdep hfree
            have a42 : ev 42 = .pointer (some ⟨X, 3, none⟩) := (hdep 15 42 (by kernel_rfl) (by kernel_rfl))
            clear hdep hfree
            have y0 : w8.cell? ⟨X, 3, none⟩ = some (.int .i64 x.n) := (hI.cell (p := ⟨X, 3, none⟩) hXE).trans z3
            have y1 : w8.cell? ⟨X, 4, none⟩ = some (.int .i64 x.d) := (hI.cell (p := ⟨X, 4, none⟩) hXE).trans z4
            try dsimp only
            simp [OpRuns, execOp, evalOf, a42, y0, y1, go_sem]
            first | exact ⟨hI, rfl⟩ | exact ⟨hI, rfl⟩ | exact hI
          case o17 =>
            intro ev w8 hI hdep hfree
            have a43 : ev 43 = rtA x.n x.d := (hdep 16 43 (by kernel_rfl) (by kernel_rfl))
            clear hdep hfree
            try dsimp only
            refine runs_call (f := 41) (args := #[rtA x.n x.d]) (by simp [execOp, evalOf, resolve, invoke, a43, go_sem]) ((HFR.out w8).mono ?_)
            rintro e w9 ⟨he, hb⟩
            exact ⟨_, he, hI.trans (hb.mono (HSZ.out w8 hI)), PhiTxr.ext hb, fun d hd => by cases hd; exact rfl⟩
          case o18 =>
            intro ev w8 hI hdep hfree
            have a41 : ev 41 = .string (sB t5) := (hdep 14 41 (by kernel_rfl) (by kernel_rfl))
            have a44 : ev 44 = .string (sB (Q.textL x.n x.d)) := (hdep 17 44 (by kernel_rfl) (by kernel_rfl))
            clear hdep hfree
            try dsimp only
            simp [OpRuns, execOp, evalOf, a41, a44, v6, go_sem]
            first | exact ⟨hI, rfl⟩ | exact ⟨hI, rfl⟩ | exact hI
          case o19 =>
            intro ev w8 hI hdep hfree
            have a27 : ev 27 = .string Z := (hdep 0 27 (by kernel_rfl) (by kernel_rfl))
            have a45 : ev 45 = .string (sB (wdP x)) := (hdep 18 45 (by kernel_rfl) (by kernel_rfl))
            clear hdep hfree
            try dsimp only
            simp [OpRuns, execOp, evalOf, a27, a45, v7, go_sem]
            first | exact ⟨hI, rfl⟩ | exact ⟨hI, rfl⟩ | exact hI
        case hend =>
          intro a w6 hdf hsz hI hPhi hkept
          replace hdf : a.defers = [] := hdf
          replace hsz : a.tmps.size = 49 := hsz
          have x46 : a.tmps.getD 46 undef = .string (sB K) := (hPhi 19 46 (by omega) (by kernel_rfl))
          have x0 : a.tmps.getD 0 undef = Value.slice (some { block := g, off := o }) L.length c := hkept 0 (kept_of (by kernel_rfl))
          have x1 : a.tmps.getD 1 undef = undef := hkept 1 (kept_of (by kernel_rfl))
          have x2 : a.tmps.getD 2 undef = Value.string { data := #[] } := hkept 2 (kept_of (by kernel_rfl))
          have x3 : a.tmps.getD 3 undef = Value.int IntKind.i64 0 := hkept 3 (kept_of (by kernel_rfl))
          have x4 : a.tmps.getD 4 undef = Value.int IntKind.i64 0 := hkept 4 (kept_of (by kernel_rfl))
          have x5 : a.tmps.getD 5 undef = Value.string Z := hkept 5 (kept_of (by kernel_rfl))
          have x6 : a.tmps.getD 6 undef = Value.int IntKind.i64 (↑k : Int) := hkept 6 (kept_of (by kernel_rfl))
          have x7 : a.tmps.getD 7 undef = Value.pointer (some { block := X, off := 0 }) := hkept 7 (kept_of (by kernel_rfl))
          have x8 : a.tmps.getD 8 undef = Value.slice (some { block := g, off := o }) L.length c := hkept 8 (kept_of (by kernel_rfl))
          have x9 : a.tmps.getD 9 undef = Value.int IntKind.i64 0 := hkept 9 (kept_of (by kernel_rfl))
          have x10 : a.tmps.getD 10 undef = Value.int IntKind.i64 0 := hkept 10 (kept_of (by kernel_rfl))
          have x11 : a.tmps.getD 11 undef = Value.bool false := hkept 11 (kept_of (by kernel_rfl))
          have x12 : a.tmps.getD 12 undef = undef := hkept 12 (kept_of (by kernel_rfl))
          have x13 : a.tmps.getD 13 undef = Value.slice (some { block := g, off := o }) L.length c := hkept 13 (kept_of (by kernel_rfl))
          have x14 : a.tmps.getD 14 undef = Value.int IntKind.i64 (↑L.length : Int) := hkept 14 (kept_of (by kernel_rfl))
          have x15 : a.tmps.getD 15 undef = Value.bool false := hkept 15 (kept_of (by kernel_rfl))
          have x16 : a.tmps.getD 16 undef = Value.slice (some { block := g, off := o }) L.length c := hkept 16 (kept_of (by kernel_rfl))
          have x17 : a.tmps.getD 17 undef = Value.int IntKind.i64 (↑L.length : Int) := hkept 17 (kept_of (by kernel_rfl))
          have x18 : a.tmps.getD 18 undef = Value.int IntKind.i64 (↑k : Int) := hkept 18 (kept_of (by kernel_rfl))
          have x19 : a.tmps.getD 19 undef = Value.bool true := hkept 19 (kept_of (by kernel_rfl))
          have x20 : a.tmps.getD 20 undef = Value.int IntKind.i64 (↑k : Int) := hkept 20 (kept_of (by kernel_rfl))
          have x21 : a.tmps.getD 21 undef = Value.pointer (some { block := g, off := o + k * 5 }) := hkept 21 (kept_of (by kernel_rfl))
          have x22 : a.tmps.getD 22 undef = Value.agg #[Value.int IntKind.i64 x.i, Value.int IntKind.i64 x.o, Value.int IntKind.i64 x.t, Value.int IntKind.i64 x.n, Value.int IntKind.i64 x.d] := hkept 22 (kept_of (by kernel_rfl))
          have x23 : a.tmps.getD 23 undef = Value.int IntKind.i64 (↑k : Int) := hkept 23 (kept_of (by kernel_rfl))
          have x25 : a.tmps.getD 25 undef = Value.string (sB (accP L k)) := hkept 25 (kept_of (by kernel_rfl))
          have x26 : a.tmps.getD 26 undef = Value.string Z := hkept 26 (kept_of (by kernel_rfl))
          have x47 : a.tmps.getD 47 undef = u47 := hkept 47 (kept_of (by kernel_rfl))
          have x48 : a.tmps.getD 48 undef = undef := hkept 48 (kept_of (by kernel_rfl))
          have ea := act_lit hsz hdf
          simp only [getDs] at ea
          rw [x46, x0, x1, x2, x3, x4, x5, x6, x7, x8, x9, x10, x11, x12, x13, x14, x15, x16, x17, x18, x19, x20, x21, x22, x23, x25, x26, x47, x48] at ea
          rw [ea]
          clear ea x46 x0 x1 x2 x3 x4 x5 x6 x7 x8 x9 x10 x11 x12 x13 x14 x15 x16 x17 x18 x19 x20 x21 x22 x23 x25 x26 x47 x48 hPhi hkept hdf hsz
          generalize a.tmps.getD 24 undef = u24
          generalize a.tmps.getD 27 undef = u27
          generalize a.tmps.getD 28 undef = u28
          generalize a.tmps.getD 29 undef = u29
          generalize a.tmps.getD 30 undef = u30
          generalize a.tmps.getD 31 undef = u31
          generalize a.tmps.getD 32 undef = u32
          generalize a.tmps.getD 33 undef = u33
          generalize a.tmps.getD 34 undef = u34
          generalize a.tmps.getD 35 undef = u35
          generalize a.tmps.getD 36 undef = u36
          generalize a.tmps.getD 37 undef = u37
          generalize a.tmps.getD 38 undef = u38
          generalize a.tmps.getD 39 undef = u39
          generalize a.tmps.getD 40 undef = u40
          generalize a.tmps.getD 41 undef = u41
          generalize a.tmps.getD 42 undef = u42
          generalize a.tmps.getD 43 undef = u43
          generalize a.tmps.getD 44 undef = u44
          generalize a.tmps.getD 45 undef = u45
          clear a
          have G6 := Lib.hid (show Below B w w6 from G5.out.trans (hI.mono hEB))
          clear hI G5 z0 z1 z2 z3 z4 v1 v2 v3 v4 v5 v6 v7
          simp only [List.drop_succ_cons, List.drop_zero]
          go_wp2_with fail
          rw [HKK.out]
          go_roundw
          case rel => exact ⟨k + 1, by omega, rfl, by go_num, G6⟩
          case measure => simp [intOf]; omega

    · obtain rfl : k = L.length := by omega
      rw [← HTX.out]
      clear hlt
      go_wp2_with fail
      go_ret2
      exact ⟨rfl, G.out⟩
theorem textpr_any (A : Option Addr) (c : Nat) (L : List Pc) (w : World) (h : PcAt w A L) (hf : Frp L) (hl : L.length ≤ 1000000) :
    Calls Tryz.prog 15 #[.slice A L.length c] w (TextP (txtP L) w) := by
  by_cases h0 : chkP L = 0
  · by_cases he : L.length = 0
    · have e : txtP L = ([45], 0) := by unfold txtP; rw [if_pos h0, if_pos he]
      rw [e]
      have heb : ((L.length : Int) == 0) = true := by rw [he]; rfl
      have HC := Lib.hid (chkpr_any A c L w h hf (by omega))
      rw [h0] at HC
      unfold TextP
      obtain ⟨B, hB⟩ : ∃ B, B = w.heap.size := ⟨_, rfl⟩
      rw [← hB] at HC ⊢
      clear h hf h0 e hB he
      go_enter Tryz.func15, Tryz.ntmps15
      go_wp2_with fail
      refine HC.out.mono ?_
      rintro e w1 ⟨rfl, hb⟩
      have G1 := Lib.hid hb
      clear hb HC
      go_wp2_with fail
      go_ret2
      exact ⟨rfl, G1.out⟩
    · have e : txtP L = (Lib.join (L.map wdP) [32], 0) := by unfold txtP; rw [if_pos h0, if_neg he]
      rw [e]
      exact textpr_some A c L w h hf h0 (by omega)
  · rw [show txtP L = ([], chkP L) by unfold txtP; rw [if_neg h0]]
    have HC := Lib.hid (chkpr_any A c L w h hf (by omega))
    obtain ⟨R, hR⟩ : ∃ R, R = chkP L := ⟨_, rfl⟩
    unfold TextP
    obtain ⟨B, hB⟩ : ∃ B, B = w.heap.size := ⟨_, rfl⟩
    rw [← hB] at HC ⊢
    rw [← hR] at HC h0 ⊢
    have h0b : (R == 0) = false := by simpa using h0
    clear h hf hB hR
    go_enter Tryz.func15, Tryz.ntmps15
    go_wp2_with fail
    refine HC.out.mono ?_
    rintro e w1 ⟨rfl, hb⟩
    have G1 := Lib.hid hb
    clear hb HC
    go_wp2_with fail
    go_ret2
    exact ⟨rfl, G1.out⟩
end Go.Proofs.YteojlodcafogaaaGreatDoor
