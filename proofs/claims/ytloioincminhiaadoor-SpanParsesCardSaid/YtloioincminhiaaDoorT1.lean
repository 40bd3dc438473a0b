/-
  The contract of Text. Its conditions are its hypotheses.
-/
import Derived.Test.YtloioincminhiaaDoorN1
import Derived.Test.YtloioincminhiaaDoorShelf
import Derived.Lib.ItoaLen
import Derived.Lib.AppendIntMem
import Derived.Deep.RegionLaw
import Derived.BigRegion
namespace Go.Proofs.YtloioincminhiaaDoor
open Go.RowKit Go.Joins
set_option linter.unusedVariables false
set_option linter.unusedSimpArgs false
theorem i9 : (Tryd.prog.info? 9).map (fun i => (i.zero, i.size, i.bytes)) = some (some (.string ⟨#[]⟩), 1, 16) := by kernel_rfl
abbrev Tab (w : World) : Prop := Lib.TabIs Tryd.prog w "internal/strconv.uint64pow10" .u64 Lib.pow10Tab
theorem Tab.on {w w' : World} (h : Tab w) (hb : Below w.heap.size w w') : Tab w' := ((Lib.tabBelow_of_tabIs h).on hb).here
def wdS (x : Spn) : List UInt8 := Lib.itoa x.i ++ [45] ++ Lib.itoa x.o
def txtS (L : List Spn) : List UInt8 × Int := if chkS L = 0 then ((if L.length = 0 then [45] else Lib.join (L.map wdS) [44]), 0) else ([], chkS L)
theorem fmt_any (n : Int) (w : World) (h0 : 0 ≤ n) (h1 : n ≤ 10378368000) (ht : Tab w) :
    Calls Tryd.prog 44 #[.int .i64 n, .int .i64 10] w fun e w' => e = .returned (.string (sB (Lib.itoa n))) ∧ Below w.heap.size w w' :=
  (Tryd.strconv_FormatInt_10 n (by omega) (by omega) w ht).mono fun e w' ⟨he, kk, os, hw'⟩ => ⟨he, by rw [hw']; exact Lib.below_grow _ w (Nat.le_refl _) kk os⟩
theorem itoa_le {n : Int} (h0 : 0 ≤ n) (h1 : n ≤ 10378368000) : (Lib.itoa n).length ≤ 21 := Lib.itoa_length_le _ (by omega) (by omega)
theorem wdS_le {x : Spn} (h0 : 0 ≤ x.i) (h1 : x.i ≤ 10378368000) (h2 : 0 ≤ x.o) (h3 : x.o ≤ 10378368000) : (wdS x).length ≤ 43 := by
  have := itoa_le h0 h1
  have := itoa_le h2 h3
  unfold wdS
  simp
  omega
theorem lens_le {xs : List (List UInt8)} {m : Nat} (h : ∀ x ∈ xs, x.length ≤ m) : Lib.lens xs ≤ m * xs.length := by
  induction xs with
  | nil => simp [Lib.lens]
  | cons x xs ih =>
    have h1 := h x List.mem_cons_self
    have h2 := ih fun y hy => h y (List.mem_cons_of_mem _ hy)
    simp [Lib.lens, Nat.mul_add] at h2 ⊢
    omega
theorem chk_bd {L : List Spn} (h : chkS L = 0) : ∀ x ∈ L, 0 ≤ x.i ∧ x.i ≤ 10378368000 ∧ 0 ≤ x.o ∧ x.o ≤ 10378368000 := by
  obtain ⟨_, hc, hb⟩ := chkS_ok.1 h
  intro x hx
  have h1 := can_pos hc x hx
  have h2 := hb x hx
  have : x.o ≤ 10378368000 := h2.2
  omega
theorem join_bd {L : List Spn} (h : chkS L = 0) : (Lib.join (L.map wdS) [44]).length ≤ 44 * L.length := by
  have hb := chk_bd h
  clear h
  cases L with
  | nil => simp [Lib.join]
  | cons x xs =>
    have h : ∀ y ∈ (x :: xs).map wdS, y.length ≤ 43 := by
      intro y hy
      obtain ⟨z, hz, rfl⟩ := List.mem_map.1 hy
      obtain ⟨b1, b2, b3, b4⟩ := hb z hz
      exact wdS_le b1 b2 b3 b4
    have h2 := lens_le h
    rw [List.map_cons, Lib.join_length]
    rw [List.map_cons] at h2
    simp at h2 ⊢
    omega
def TextP (r : List UInt8 × Int) (W : World) (e : Ending) (w' : World) : Prop := e = .returned (.tuple #[.string (sB r.1), .int .i64 r.2]) ∧ Below W.heap.size W w'
theorem wd_step {L : List Spn} {k : Nat} {x : Spn} (hk : L[k]? = some x) : ((L.take (k + 1)).map (fun s => Value.string (sB (wdS s)))) = (L.take k).map (fun s => Value.string (sB (wdS s))) ++ [.string (sB (wdS x))] := by
  rw [List.take_add_one, hk, List.map_append]
  rfl
set_option maxRecDepth 100000 in
set_option maxHeartbeats 4000000 in
theorem text_some (A : Option Addr) (c : Nat) (L : List Spn) (w : World) (h : SpAt w A L) (h0 : chkS L = 0) (he : 0 < L.length) (ht : Tab w) :
    Calls Tryd.prog 29 #[.slice A L.length c] w (TextP (Lib.join (L.map wdS) [44], 0) w) := by
  have H := Lib.hid h
  have H0 := Lib.hid h0
  have heb : ((L.length : Int) == 0) = false := by rw [beq_eq_false_iff_ne]; omega
  have hlen := (chkS_ok.1 h0).1
  have HBD := Lib.hid (chk_bd h0)
  have HJB := Lib.hid (join_bd h0)
  have HT := Lib.hid (Lib.tabBelow_of_tabIs ht)
  obtain ⟨T, hT⟩ : ∃ T, T = Lib.join (L.map wdS) [44] := ⟨_, rfl⟩
  rw [← hT]
  have HTX := Lib.hid hT
  obtain ⟨i0, hi, hz0, hz1, hz2⟩ := info_parts i9
  have HI0 := Lib.hid (And.intro hi (And.intro hz0 (And.intro hz1 hz2)))
  obtain ⟨B, hB⟩ : ∃ B, B = w.heap.size := ⟨_, rfl⟩
  have HB := Lib.hid hB
  unfold TextP
  rw [← hB]
  clear h h0 ht hT hi hz0 hz1 hz2 hB
  go_enter Tryd.func29, Tryd.ntmps29
  go_wp2_with fail
  refine (chk_any A c L w H.out (by omega)).mono ?_
  rintro e w1 ⟨rfl, hb⟩
  rw [H0.out]
  have H1 := Lib.hid (H.out.ext hb)
  have G1 := Lib.hid (show Below B w w1 from HB.out ▸ hb)
  have hs1 : B ≤ w1.heap.size := by have := hb.size; have := HB.out; omega
  clear hb
  go_wp2_with fail
  go_loopw [18, 5] (fun i v wr => ∃ (k : Nat) (uv : Value), uv = v ∧ k ≤ L.length ∧ i = .int .i64 k ∧ Hid (wr.ownsRow B 9 1 uv k ((L.take k).map (fun s => Value.string (sB (wdS s))))) ∧ Hid (Below B w wr)) (fun i _ _ => L.length - (intOf i).toNat)
  case atStart => exact ⟨0, _, rfl, by omega, rfl, Lib.hid (World.ownsRow_nil _ _ _ _), G1⟩
  case round =>
    obtain ⟨k, uv, rfl, hk, rfl, HO, G⟩ := hrel
    have hsz : B ≤ wr.heap.size := by have := G.out.size; have := HB.out; omega
    by_cases hlt : k < L.length
    · have hlt2 : (k : Int) < (L.length : Int) := by omega
      obtain ⟨x, hx⟩ : ∃ x, L[k]? = some x := ⟨_, List.getElem?_eq_getElem hlt⟩
      have HX := Lib.hid hx
      have HRw := H.out.ext (HB.out ▸ G.out)
      obtain ⟨g, o, rfl⟩ := SpAt.some HRw hx
      obtain ⟨q0, q1⟩ := SpAt.get HRw hx
      have HXB := Lib.hid (HBD.out x (List.mem_of_getElem? hx))
      clear HRw hx
      go_wp2_with fail
      generalize hw5 : World.alloc wr _ = w5
      have F5 : Held w5 wr.heap.size [.int .i64 x.i, .int .i64 x.o] := by subst hw5; exact Held.new rfl
      obtain ⟨z0, z1⟩ := two_of F5
      have G5 := Lib.hid (show Below B w w5 by subst hw5; exact G.out.alloc hsz _)
      have HO5 := Lib.hid (show w5.ownsRow B 9 1 uv k ((L.take k).map (fun s => Value.string (sB (wdS s)))) by subst hw5; exact HO.out.alloc _)
      have hX5 := F5.lt
      generalize wr.heap.size = X at *
      clear hw5 q0 q1 HO G
      obtain ⟨N, hN⟩ : ∃ N, N = w5.heap.size := ⟨_, rfl⟩
      have hNB : B ≤ N := by rw [hN]; have := G5.out.size; have := HB.out; omega
      have HNX : X < N := by omega
      have HOX := Lib.hid (fun W (hW : Below N w5 W) => show W.ownsRow B 9 1 uv k ((L.take k).map (fun s => Value.string (sB (wdS s)))) from ownsRow_below (B := N) HO5.out hW (Nat.le_of_eq hN.symm))
      have HFI := Lib.hid (fun (n : Int) (W : World) (hW : Below N w5 W) (h0 : 0 ≤ n) (h1 : n ≤ 10378368000) =>
        (fmt_any n W h0 h1 ((HT.out.on (HB.out ▸ G5.out.trans (hW.mono hNB))).here)).mono (R' := fun e w' => e = .returned (.string (sB (Lib.itoa n))) ∧ Below N w5 w' ∧ w'.cell? ⟨X, 0, none⟩ = some (.int .i64 x.i) ∧ w'.cell? ⟨X, 1, none⟩ = some (.int .i64 x.o)) (fun e w' ⟨h1, h2⟩ =>
          have hb := hW.trans (h2.mono (show N ≤ W.heap.size by have := hW.size; omega))
          ⟨h1, hb, (hb.cell (p := ⟨X, 0, none⟩) HNX).trans z0, (hb.cell (p := ⟨X, 1, none⟩) HNX).trans z1⟩))
      have HSZ := Lib.hid (fun W (hW : Below N w5 W) => show B ≤ W.heap.size by have := hW.size; omega)
      have hb0 : Below N w5 w5 := Below.refl _ _
      have hb1 : Below N w5 w5.drew := hb0.drew
      obtain ⟨x0, x1, x2, x3⟩ := HXB.out
      have l1 := itoa_le x0 x1
      have l2 := itoa_le x2 x3
      have y1 : ∀ w', (Op.stringOp .add (sB (Lib.itoa x.i)) ⟨#[45]⟩).run Tryd.prog w' = .ok (.string (sB (Lib.itoa x.i ++ [45]))) w' := fun w' => add_sB (a := Lib.itoa x.i) (b := [45]) (by simp; omega) w'
      have y2 : ∀ w', (Op.stringOp .add (sB (Lib.itoa x.i ++ [45])) (sB (Lib.itoa x.o))).run Tryd.prog w' = .ok (.string (sB (wdS x))) w' := fun w' => add_sB (by simp; omega) w'
      clear l1 l2 hN
      go_region_law (first
        | (go_simp; go_at_call 44; first
            | (refine (HFI.out x.i _ (by assumption) x0 x1).mono ?_; rintro e wq ⟨rfl, hbq, zq0, zq1⟩)
            | (refine (HFI.out x.o _ (by assumption) x2 x3).mono ?_; rintro e wq ⟨rfl, hbq, zq0, zq1⟩))
        | (go_loud (refine step_append_lies _ (by rfl) _ _ _ (by rfl) B 9 i0 (.string ⟨#[]⟩) 1 16 Tryd.underlying51 HI0.out.1 HI0.out.2.1 HI0.out.2.2.1 HI0.out.2.2.2 rfl (by decide) uv k ((L.take k).map (fun s => Value.string (sB (wdS s)))) (by rfl) (by first | exact (HOX.out _ (by assumption)).alloc _ | exact ((HOX.out _ (by assumption)).alloc _).drew) ⟨_, 0, none⟩ 1 1 [.string (sB (wdS x))] (by rfl) (by rfl) (CellsAt.all (by simp [CellsAt, go_sem])) (by simp [Value.oneCell']) (by omega) (by simp only [maxLen]; omega) (by omega) (by have hbz := HSZ.out _ (show Below N w5 _ by assumption); simp; omega) _ (by rfl) ?_); intro g' cap' w6 ho hgr hat hlt6))
      all_goals
        have hszq := HSZ.out wq hbq
        have G6 := Lib.hid (show Below B w w6 from ((G5.out.trans (hbq.mono hNB)).alloc hszq _).grown hgr (by simp; omega) (fun k e => ((HOX.out wq hbq).lt k e).1))
        have HO6 := Lib.hid (show w6.ownsRow B 9 1 (.slice (some ⟨g', 0, none⟩) (k + 1) cap') (k + 1) ((L.take (k + 1)).map (fun s => Value.string (sB (wdS s)))) by rw [wd_step HX.out]; exact ho)
        clear ho hgr hat hlt6 hszq
        go_wp2_with fail
        go_roundw
        case rel => exact ⟨k + 1, _, rfl, by omega, by go_num, HO6, G6⟩
        case measure => simp [intOf]; omega
    · obtain rfl : k = L.length := by omega
      rw [List.take_length] at HO
      obtain ⟨g, cap, hv, hgB, hgl⟩ := HO.out.form he
      obtain ⟨A2, c2, hv2, hr2, hc2, hc3, _⟩ := row_of_own HO.out
      subst hv
      cases hv2
      have hcells : ∀ (j : Nat) x, (L.map (fun s => sB (wdS s)))[j]? = some x → wr.cell? ⟨g, 0 + j, none⟩ = some (.string x) := by
        intro j x hj
        obtain ⟨b, o, hA, hc⟩ := hr2 j (.string x) (by rw [List.getElem?_map] at hj ⊢; cases hLj : L[j]? with
          | none => rw [hLj] at hj; cases hj
          | some y => rw [hLj] at hj; simp at hj ⊢; exact hj)
        cases hA
        exact hc
      have HC := Lib.hid hcells
      clear hcells hr2 HO hlt
      go_wp2_with fail
      have hmap : (L.map (fun s => sB (wdS s))).map (·.data.toList) = L.map wdS := by simp [sB, Function.comp_def]
      have hsj := Tryd.strings_Join g 0 cap (L.map (fun s => sB (wdS s))) ⟨#[44]⟩ wr HC.out hgl (by simp; omega) (by simpa using hc2) (by rw [hmap]; have := HJB.out; show (Lib.join (L.map wdS) [44]).length ≤ _; omega)
      rw [hmap, List.length_map] at hsj
      refine hsj.mono ?_
      rintro e w' ⟨rfl, hb'⟩
      have hbf := Lib.hid (G.out.trans (hb'.mono hsz))
      clear hb' hmap hsj
      go_wp2_with fail
      go_ret2
      exact ⟨by rw [HTX.out]; rfl, hbf.out⟩
theorem text_any (A : Option Addr) (c : Nat) (L : List Spn) (w : World) (h : SpAt w A L) (hl : L.length ≤ 1000000) (ht : Tab w) :
    Calls Tryd.prog 29 #[.slice A L.length c] w (TextP (txtS L) w) := by
  have H := Lib.hid h
  obtain ⟨R, hR⟩ : ∃ R, R = txtS L := ⟨_, rfl⟩
  rw [← hR]
  by_cases h0 : chkS L = 0
  · by_cases he : L.length = 0
    · obtain rfl : R = ([45], 0) := by rw [hR]; unfold txtS; rw [if_pos h0, if_pos he]
      have H0 := Lib.hid h0
      have heb : ((L.length : Int) == 0) = true := by rw [he]; rfl
      unfold TextP
      obtain ⟨B, hB⟩ : ∃ B, B = w.heap.size := ⟨_, rfl⟩
      have HB := Lib.hid hB
      rw [← hB]
      clear h h0 hR hB ht he
      go_enter Tryd.func29, Tryd.ntmps29
      go_wp2_with fail
      refine (chk_any A c L w H.out (by omega)).mono ?_
      rintro e w1 ⟨rfl, hb⟩
      rw [H0.out]
      have HBL := Lib.hid (show Below B w w1 from HB.out ▸ hb)
      clear hb
      go_wp2_with fail
      go_ret2
      exact ⟨rfl, HBL.out⟩
    · obtain rfl : R = (Lib.join (L.map wdS) [44], 0) := by rw [hR]; unfold txtS; rw [if_pos h0, if_neg he]
      exact text_some A c L w h h0 (by omega) ht
  · obtain ⟨E, hE⟩ : ∃ E, E = chkS L := ⟨_, rfl⟩
    obtain rfl : R = ([], E) := by rw [hR, hE]; unfold txtS; rw [if_neg h0]
    have HE := Lib.hid hE
    have hc2 : (E == 0) = false := by rw [hE]; simpa using h0
    unfold TextP
    obtain ⟨B, hB⟩ : ∃ B, B = w.heap.size := ⟨_, rfl⟩
    have HB := Lib.hid hB
    rw [← hB]
    clear h h0 hR hB ht hE
    go_enter Tryd.func29, Tryd.ntmps29
    go_wp2_with fail
    refine (chk_any A c L w H.out (by omega)).mono ?_
    rintro e w1 ⟨rfl, hb⟩
    rw [← HE.out]
    have HBL := Lib.hid (show Below B w w1 from HB.out ▸ hb)
    clear hb
    go_wp2_with fail
    go_ret2
    exact ⟨rfl, HBL.out⟩
end Go.Proofs.YtloioincminhiaaDoor
