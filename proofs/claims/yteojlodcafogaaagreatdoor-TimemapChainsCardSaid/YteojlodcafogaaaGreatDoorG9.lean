/-
  The contracts of Clone and of Shift, in the program and in the reference. Their conditions are their hypotheses.
-/
import Derived.Test.YteojlodcafogaaaGreatDoorBj
import Derived.Laws.AppendOwnNone
import Derived.Lib.SliceRun
namespace Go.Proofs.YteojlodcafogaaaGreatDoor
open Go.RowKit Go.Joins
set_option linter.unusedVariables false
set_option linter.unusedSimpArgs false
def FrmP (A : Option Addr) (c : Nat) : Prop := (A = none ∧ c = 0) ∨ ∃ ad, A = some ad
def NewM (L : List Pc) (W : World) (e : Ending) (w' : World) : Prop := (∃ v, e = .returned v ∧ w'.ownsRow W.heap.size 57 5 v L.length (L.flatMap pcV)) ∧ Below W.heap.size W w'
theorem own_emptyP (w : World) (base : Nat) (hb : base ≤ w.heap.size) : (w.alloc (.cells #[] 57)).ownsRow base 57 5 (.slice (some ⟨w.heap.size, 0, none⟩) 0 0) 0 [] :=
  ⟨rfl, .inr ⟨w.heap.size, 0, #[], rfl, hb, heap_at w _ rfl, Nat.le_refl _, Nat.zero_le _, rfl, rfl⟩⟩
theorem news_all {w : World} {A : Option Addr} {ad : Addr} {L : List Pc} (h : PcAt w A L) (hA : A = some ad) : ∀ j u, (L.flatMap pcV)[j]? = some u → w.cell? (ad.add j) = some u := by
  intro j u hj
  obtain ⟨b, o', e, hc⟩ := h j u hj
  rw [hA] at e
  cases e
  rw [Addr.add_lit]
  exact hc
theorem rowAt_none {w : World} {L : List Pc} (h : PcAt w none L) : L = [] := by
  cases L with
  | nil => rfl
  | cons x r => obtain ⟨g, o, e⟩ := PcAt.some h (k := 0) (x := x) rfl; cases e
set_option maxRecDepth 100000 in
set_option maxHeartbeats 2000000 in
theorem clone_any (A : Option Addr) (c : Nat) (L : List Pc) (w : World) (h : PcAt w A L) (hfr : FrmP A c) (hl : L.length ≤ 1000000) :
    Calls Tryz.prog 56 #[.slice A L.length c] w (NewM L w) := by
  obtain ⟨i0, hi, hz0, hz1, hz2⟩ := info_parts infoP
  have HI0 := Lib.hid (And.intro hi (And.intro hz0 (And.intro hz1 hz2)))
  have H := Lib.hid h
  have q22 : ∀ (w : World) (a : Option Addr) (n c n' c' : Nat), (binOp .eql 22 (.slice a n c) (.slice none n' c')).run Tryz.prog w = .ok (.bool a.isNone) w := fun w a n c n' c' => Lib.run_eql_slice_nil w _ _ a n c n' c' Tryz.underlying22
  unfold NewM
  obtain ⟨D, hD⟩ : ∃ D, D = w.heap.size := ⟨_, rfl⟩
  have HD := Lib.hid hD
  rw [← hD]
  clear hi hz0 hz1 hz2 hD h
  rcases hfr with ⟨rfl, rfl⟩ | ⟨ad, hA⟩
  · obtain rfl := rowAt_none H.out
    go_enter Tryz.func56, Tryz.ntmps56
    go_wp2_with fail
    go_ret
    exact ⟨⟨_, rfl, World.ownsRow_nil _ _ _ _⟩, Below.refl _ _⟩
  · have HN := Lib.hid (fun W (h : PcAt W A L) => news_all h hA)
    subst hA
    go_enter Tryz.func56, Tryz.ntmps56
    go_wp2_with (at_builtin; go_loud (refine wpList_append_own _ rfl _ _ 22 rfl D 57 i0 (.agg #[.int .i64 0, .int .i64 0, .int .i64 0, .int .i64 0, .int .i64 0]) 5 40 Tryz.underlying22 HI0.out.1 HI0.out.2.1 HI0.out.2.2.1 HI0.out.2.2.2 rfl (by decide) _ 0 [] rfl (own_emptyP w D (Nat.le_of_eq HD.out)) ad L.length c (L.flatMap pcV) rfl (flat_len pcV_len L) (HN.out _ (H.out.ext (below_one w _))) (pcV_flat_one _) (by simp only [maxLen]; omega) (by omega) (by simp; have := HD.out; omega) ?_))
    intro v1 w1 ho hgr _
    have G1 := Lib.hid (show Below D w w1 from ((Below.refl D w).alloc (Nat.le_of_eq HD.out) _).grown hgr (by simp; have := HD.out; omega) (fun k e => by cases e; exact Nat.le_of_eq HD.out))
    have HO1 := Lib.hid (show w1.ownsRow D 57 5 v1 L.length (L.flatMap pcV) by simpa using ho)
    clear ho hgr
    go_wp2_with fail
    go_ret
    exact ⟨⟨_, rfl, HO1.out⟩, G1.out⟩
theorem pc_set (a : Int) : ∀ (L M : List Pc) (x : Pc), ((L ++ x :: M).flatMap pcV).set (L.length * 5) (.int .i64 a) = (L ++ ⟨a, x.o, x.t, x.n, x.d⟩ :: M).flatMap pcV
  | [], M, x => rfl
  | y :: r, M, x => by
    have ih := pc_set a r M x
    rw [List.cons_append, List.flatMap_cons, List.cons_append, List.flatMap_cons, ← ih, List.length_cons, List.set_append_right _ _ (by rw [pcV_len]; omega), pcV_len]
    congr 2
    omega
theorem pc_set1 (a : Int) : ∀ (L M : List Pc) (x : Pc), ((L ++ x :: M).flatMap pcV).set (L.length * 5 + 1) (.int .i64 a) = (L ++ ⟨x.i, a, x.t, x.n, x.d⟩ :: M).flatMap pcV
  | [], M, x => rfl
  | y :: r, M, x => by
    have ih := pc_set1 a r M x
    rw [List.cons_append, List.flatMap_cons, List.cons_append, List.flatMap_cons, ← ih, List.length_cons, List.set_append_right _ _ (by rw [pcV_len]; omega), pcV_len]
    congr 2
    omega
/-- The first k pieces are moved. -/
def mixM (L : List Pc) (n : Int) (k : Nat) : List Pc := movL (L.take k) n ++ L.drop k
theorem mix_len (L : List Pc) (n : Int) (k : Nat) : (mixM L n k).length = L.length := by
  unfold mixM movL
  rw [List.length_append, List.length_map, List.length_take, List.length_drop]
  omega
theorem mix_at {L : List Pc} {n : Int} {k : Nat} {x : Pc} (hk : L[k]? = some x) : mixM L n k = movL (L.take k) n ++ x :: L.drop (k + 1) ∧ (movL (L.take k) n).length = k ∧ mixM L n (k + 1) = movL (L.take k) n ++ movO n x :: L.drop (k + 1) := by
  obtain ⟨h, e⟩ := List.getElem?_eq_some_iff.1 hk
  refine ⟨?_, ?_, ?_⟩
  · unfold mixM
    rw [List.drop_eq_getElem_cons h, e]
  · unfold movL
    rw [List.length_map, List.length_take]
    omega
  · unfold mixM movL
    rw [List.take_add_one, hk, List.map_append]
    simp
theorem fst_is {L : List Pc} {x : Pc} (h : L[0]? = some x) : fstI L = x.i := by
  unfold fstI
  cases L with
  | nil => cases h
  | cons y r => have e : y = x := Option.some.inj h; subst e; rfl
theorem lst_is {L : List Pc} {m : Nat} {x : Pc} (hm : L.length = m + 1) (h : L[m]? = some x) : lstO L = x.o := by
  unfold lstO
  rw [List.getLast?_eq_getElem?, hm, show m + 1 - 1 = m from rfl, h]
theorem mov_bad {L : List Pc} {n : Int} (h : chkP L = 0) (hL : L ≠ []) (hb : n < -fstI L ∨ mF - lstO L < n) : movP L n = ([], 2) := by unfold movP; rw [if_pos h, if_neg hL, if_pos hb]
theorem mov_good {L : List Pc} {n : Int} (h : chkP L = 0) (hL : L ≠ []) (hb : ¬ (n < -fstI L ∨ mF - lstO L < n)) : movP L n = (movL L n, 0) := by unfold movP; rw [if_pos h, if_neg hL, if_neg hb]
set_option maxRecDepth 100000 in
set_option maxHeartbeats 4000000 in
theorem shift_any (A : Option Addr) (c : Nat) (L : List Pc) (n : Int) (w : World) (hs : PcAt w A L) (hf : Frp L) (hfr : FrmP A c) (hbig : L.length ≤ 1000000) (hn : -9223372036854775808 ≤ n ∧ n ≤ 9223372036854775807) :
    Calls Tryz.prog 30 #[.slice A L.length c, .int .i64 n] w (RetM (movP L n) w) := by
  have HS := Lib.hid hs
  have HFR := Lib.hid hfr
  have HC := Lib.hid (chkp_any A c L w hs hf (by omega))
  obtain ⟨R, hR⟩ : ∃ R, R = movP L n := ⟨_, rfl⟩
  have HR := Lib.hid hR
  unfold RetM
  obtain ⟨D, hD⟩ : ∃ D, D = w.heap.size := ⟨_, rfl⟩
  have HD := Lib.hid hD
  rw [← hR]
  rw [← hD] at HC ⊢
  clear hs hf hfr hR hD
  by_cases h0 : chkP L = 0
  · have hl6 := (chkP_ok.1 h0).1
    have HG := Lib.hid (chkP_ok.1 h0)
    have H0 := Lib.hid h0
    rw [h0] at HC
    clear h0
    by_cases he : L = []
    · subst he
      obtain rfl : R = ([], 0) := by rw [HR.out]; unfold movP; rw [if_pos H0.out, if_pos rfl]
      go_enter Tryz.func30, Tryz.ntmps30
      go_wp2_with fail
      refine HC.out.mono ?_
      rintro e w1 ⟨rfl, hb⟩
      have G1 := Lib.hid hb
      have hs1 : D ≤ w1.heap.size := by have := hb.size; have := HD.out; omega
      clear hb HC
      go_wp2_with fail
      refine (clone_any A c [] w1 (RowAt.nil _ _) HFR.out (by simp)).mono ?_
      rintro e w2 ⟨⟨v, rfl, ho⟩, hb⟩
      obtain ⟨A5, c5, e5, hr5, _⟩ := own_formP ho
      subst e5
      have HO := Lib.hid (ownsRow_mono ho hs1)
      have G2 := Lib.hid (G1.out.trans (hb.mono hs1))
      clear ho hb hr5
      go_wp2_with fail
      go_loopw [43] (fun i wr => i = .int .i64 0 ∧ wr = w2) (fun i _ => 0)
      case atStart => exact ⟨rfl, rfl⟩
      case round =>
        obtain ⟨rfl, rfl⟩ := hrel
        go_wp2_with fail
        go_ret2
        exact ⟨⟨_, rfl, HO.out⟩, G2.out⟩
    · obtain ⟨m, hm⟩ : ∃ m, L.length = m + 1 := ⟨L.length - 1, by have := List.length_pos_iff.2 he; omega⟩
      obtain ⟨x0, hx0⟩ : ∃ x, L[0]? = some x := ⟨_, List.getElem?_eq_getElem (by omega)⟩
      obtain ⟨xl, hxl⟩ : ∃ x, L[m]? = some x := ⟨_, List.getElem?_eq_getElem (by omega)⟩
      have HX0 := Lib.hid hx0
      have HXL := Lib.hid hxl
      have HFI := Lib.hid (fst_is hx0)
      have HLO := Lib.hid (lst_is hm hxl)
      have ga := sgl_bd (HG.out.2.1 x0 (List.mem_of_getElem? hx0))
      have gb := sgl_bd (HG.out.2.1 xl (List.mem_of_getElem? hxl))
      have a1 := ga.1
      have a2 := ga.2.1
      have a3 := gb.2.2.1
      have a4 := gb.2.2.2.1
      have HE := Lib.hid he
      have m5 : (m : Int) < (L.length : Int) := by omega
      have m6 : (0 : Int) < (L.length : Int) := by omega
      have m7 : wrap64 ((L.length : Int) - 1) = (m : Int) := by go_arith
      have m8 : (L.length : Int) - 1 = (m : Int) := by omega
      clear he hm ga gb hx0 hxl
      go_enter Tryz.func30, Tryz.ntmps30
      go_wp2_with fail
      refine HC.out.mono ?_
      rintro e w1 ⟨rfl, hb⟩
      have G1 := Lib.hid hb
      have hs1 : D ≤ w1.heap.size := by have := hb.size; have := HD.out; omega
      have HS1 := Lib.hid (HS.out.ext (HD.out ▸ hb))
      obtain ⟨g, o, rfl⟩ := PcAt.some HS1.out HX0.out
      obtain ⟨q0, _, _, _, _⟩ := PcAt.get HS1.out HX0.out
      obtain ⟨_, r1, _, _, _⟩ := PcAt.get HS1.out HXL.out
      simp only [Nat.zero_mul, Nat.add_zero] at q0
      clear hb HC
      by_cases c1 : n < -x0.i
      · obtain rfl : R = ([], 2) := by rw [HR.out]; exact mov_bad H0.out HE.out (.inl (by rw [HFI.out]; exact c1))
        go_wp2_with fail
        go_ret2
        exact ⟨⟨_, rfl, World.ownsRow_nil _ _ _ _⟩, G1.out⟩
      · by_cases c2 : 5184000 - xl.o < n
        · obtain rfl : R = ([], 2) := by rw [HR.out]; exact mov_bad H0.out HE.out (.inr (by rw [HLO.out]; exact c2))
          go_wp2_with fail
          go_ret2
          exact ⟨⟨_, rfl, World.ownsRow_nil _ _ _ _⟩, G1.out⟩
        · obtain rfl : R = (movL L n, 0) := by rw [HR.out]; exact mov_good H0.out HE.out (by rw [HFI.out, HLO.out]; show ¬ (n < -x0.i ∨ 5184000 - xl.o < n); omega)
          have n1 : -5184000 ≤ n := by omega
          have n2 : n ≤ 5184000 := by omega
          go_wp2_with fail
          refine (clone_any _ c L w1 HS1.out HFR.out (by omega)).mono ?_
          rintro e w2 ⟨⟨v, rfl, ho⟩, hb⟩
          obtain ⟨g5, c5, e5⟩ : ∃ g5 c5, v = .slice (some ⟨g5, 0, none⟩) L.length c5 := by
            rcases ho.2 with ⟨rfl, h2⟩ | ⟨g5, cap, cur, h2, _⟩
            · omega
            · exact ⟨g5, cap, h2⟩
          subst e5
          have HO := Lib.hid (ownsRow_mono ho hs1)
          have G2 := Lib.hid (G1.out.trans (hb.mono hs1))
          clear ho hb q0 r1 c1 c2
          go_wp2_with fail
          go_loopw [43] (fun i wr => ∃ k : Nat, k ≤ L.length ∧ i = .int .i64 k ∧ Hid (wr.ownsRow D 57 5 (.slice (some ⟨g5, 0, none⟩) L.length c5) L.length ((mixM L n k).flatMap pcV)) ∧ Hid (Below D w wr)) (fun i _ => L.length - (intOf i).toNat)
          case atStart => exact ⟨0, by omega, rfl, HO, G2⟩
          case round =>
            obtain ⟨k, hk, rfl, HM, G⟩ := hrel
            by_cases hlt : k < L.length
            · have hlt2 : (k : Int) < (L.length : Int) := by omega
              obtain ⟨x, hx⟩ : ∃ x, L[k]? = some x := ⟨_, List.getElem?_eq_getElem hlt⟩
              have gx := sgl_bd (HG.out.2.1 x (List.mem_of_getElem? hx))
              have b1 := gx.1
              have b2 := gx.2.1
              have b3 := gx.2.2.1
              have b4 := gx.2.2.2.1
              obtain ⟨e1, e2, e3⟩ := mix_at (n := n) hx
              have HE3 := Lib.hid e3
              rw [e1] at HM
              generalize movL (L.take k) n = M1 at *
              generalize L.drop (k + 1) = M2 at *
              have hcell : ∀ j u, j < 5 → (pcV x)[j]? = some u → wr.cell? ⟨g5, k * 5 + j, none⟩ = some u := by
                intro j u hj hu
                have := HM.out.cells (g := g5) rfl (k * 5 + j) u ((flat_get pcV_len (l := M1 ++ x :: M2) (k := k) (x := x) (by rw [List.getElem?_append_right (by omega), e2]; simp) hj).trans hu)
                rwa [Addr.add_lit, Nat.zero_add] at this
              have q0 := hcell 0 _ (by omega) rfl
              have q1 := hcell 1 _ (by omega) rfl
              simp only [Nat.add_zero] at q0
              have f0 := own_free HM.out (k * 5)
              have f1 := own_free HM.out (k * 5 + 1)
              have HG5 := Lib.hid (own_base HM.out g5 rfl)
              have HM1 := Lib.hid (own_cell HM.out (k * 5) (.int .i64 (x.i + n)) (by rw [flat_len pcV_len]; simp; omega))
              have HEQ := Lib.hid (And.intro (pc_set (x.i + n) M1 M2 x) (pc_set1 (x.o + n) M1 M2 ⟨x.i + n, x.o, x.t, x.n, x.d⟩))
              rw [e2] at HEQ
              rw [HEQ.out.1] at HM1
              have HM2 := Lib.hid (own_cell HM1.out (k * 5 + 1) (.int .i64 (x.o + n)) (by rw [flat_len pcV_len]; simp; omega))
              rw [HEQ.out.2] at HM2
              have HM3 := Lib.hid (HE3.out ▸ HM2.out)
              clear hx gx e1 e2 e3 hcell HM HM1 HM2
              go_wp2_with fail
              go_roundw
              case rel => exact ⟨k + 1, by omega, by go_num, HM3, Lib.hid ((G.out.setCell (p := ⟨g5, k * 5, none⟩) HG5.out _).setCell (p := ⟨g5, k * 5 + 1, none⟩) HG5.out _)⟩
              case measure => simp [intOf]; omega
            · obtain rfl : k = L.length := by omega
              have hml : mixM L n L.length = movL L n := by unfold mixM; rw [List.take_length, List.drop_length, List.append_nil]
              rw [hml] at HM
              have HLL := Lib.hid (show (movL L n).length = L.length from List.length_map ..)
              clear hlt hml
              go_wp2_with fail
              go_ret2
              exact ⟨⟨_, rfl, by rw [HLL.out]; exact HM.out⟩, G.out⟩
  · obtain ⟨E, hE⟩ : ∃ E, E = chkP L := ⟨_, rfl⟩
    obtain rfl : R = ([], E) := by rw [HR.out, hE]; unfold movP; rw [if_neg h0]
    rw [← hE] at HC h0
    have h0b : (E == 0) = false := by simpa using h0
    clear hE
    go_enter Tryz.func30, Tryz.ntmps30
    go_wp2_with fail
    refine HC.out.mono ?_
    rintro e w1 ⟨rfl, hb⟩
    have G1 := Lib.hid hb
    clear hb HC
    go_wp2_with fail
    go_ret2
    exact ⟨⟨_, rfl, World.ownsRow_nil _ _ _ _⟩, G1.out⟩
theorem movL_step {L : List Pc} {k : Nat} {x : Pc} (n : Int) (hk : L[k]? = some x) : movL (L.take (k + 1)) n = movL (L.take k) n ++ [movO n x] := by
  unfold movL
  rw [List.take_add_one, hk, List.map_append]
  rfl
set_option maxRecDepth 100000 in
set_option maxHeartbeats 4000000 in
theorem shiftr_any (A : Option Addr) (c : Nat) (L : List Pc) (n : Int) (w : World) (hs : PcAt w A L) (hf : Frp L) (hbig : L.length ≤ 1000000) (hn : -9223372036854775808 ≤ n ∧ n ≤ 9223372036854775807) :
    Calls Tryz.prog 31 #[.slice A L.length c, .int .i64 n] w (RetM (movP L n) w) := by
  have HS := Lib.hid hs
  have HC := Lib.hid (chkpr_any A c L w hs hf (by omega))
  obtain ⟨R, hR⟩ : ∃ R, R = movP L n := ⟨_, rfl⟩
  have HR := Lib.hid hR
  unfold RetM
  obtain ⟨D, hD⟩ : ∃ D, D = w.heap.size := ⟨_, rfl⟩
  have HD := Lib.hid hD
  rw [← hR]
  rw [← hD] at HC ⊢
  clear hs hf hR hD
  by_cases h0 : chkP L = 0
  · have hl6 := (chkP_ok.1 h0).1
    have HG := Lib.hid (chkP_ok.1 h0)
    have H0 := Lib.hid h0
    rw [h0] at HC
    clear h0
    by_cases he : L = []
    · subst he
      obtain rfl : R = ([], 0) := by rw [HR.out]; unfold movP; rw [if_pos H0.out, if_pos rfl]
      go_enter Tryz.func31, Tryz.ntmps31
      go_wp2_with fail
      refine HC.out.mono ?_
      rintro e w1 ⟨rfl, hb⟩
      have G1 := Lib.hid hb
      clear hb HC
      go_wp2_with fail
      go_ret2
      exact ⟨⟨_, rfl, World.ownsRow_nil _ _ _ _⟩, G1.out⟩
    · obtain ⟨m, hm⟩ : ∃ m, L.length = m + 1 := ⟨L.length - 1, by have := List.length_pos_iff.2 he; omega⟩
      obtain ⟨x0, hx0⟩ : ∃ x, L[0]? = some x := ⟨_, List.getElem?_eq_getElem (by omega)⟩
      obtain ⟨xl, hxl⟩ : ∃ x, L[m]? = some x := ⟨_, List.getElem?_eq_getElem (by omega)⟩
      have HX0 := Lib.hid hx0
      have HXL := Lib.hid hxl
      have HFI := Lib.hid (fst_is hx0)
      have HLO := Lib.hid (lst_is hm hxl)
      have ga := sgl_bd (HG.out.2.1 x0 (List.mem_of_getElem? hx0))
      have gb := sgl_bd (HG.out.2.1 xl (List.mem_of_getElem? hxl))
      have a1 := ga.1
      have a2 := ga.2.1
      have a3 := gb.2.2.1
      have a4 := gb.2.2.2.1
      have HE := Lib.hid he
      have m5 : (m : Int) < (L.length : Int) := by omega
      have m6 : (0 : Int) < (L.length : Int) := by omega
      have m7 : wrap64 ((L.length : Int) - 1) = (m : Int) := by go_arith
      have m8 : (L.length : Int) - 1 = (m : Int) := by omega
      have m9 : ((L.length : Int) == 0) = false := by rw [beq_eq_false_iff_ne]; omega
      obtain ⟨i0, hi, hz0, hz1, hz2⟩ := info_parts infoP
      have HI0 := Lib.hid (And.intro hi (And.intro hz0 (And.intro hz1 hz2)))
      clear he hm ga gb hx0 hxl hi hz0 hz1 hz2
      go_enter Tryz.func31, Tryz.ntmps31
      go_wp2_with fail
      refine HC.out.mono ?_
      rintro e w1 ⟨rfl, hb⟩
      have G1 := Lib.hid hb
      have hs1 : D ≤ w1.heap.size := by have := hb.size; have := HD.out; omega
      have HS1 := Lib.hid (HS.out.ext (HD.out ▸ hb))
      obtain ⟨g, o, rfl⟩ := PcAt.some HS1.out HX0.out
      obtain ⟨q0, _, _, _, _⟩ := PcAt.get HS1.out HX0.out
      obtain ⟨_, r1, _, _, _⟩ := PcAt.get HS1.out HXL.out
      simp only [Nat.zero_mul, Nat.add_zero] at q0
      clear hb HC
      by_cases c1 : n < -x0.i
      · obtain rfl : R = ([], 2) := by rw [HR.out]; exact mov_bad H0.out HE.out (.inl (by rw [HFI.out]; exact c1))
        go_wp2_with fail
        go_ret2
        exact ⟨⟨_, rfl, World.ownsRow_nil _ _ _ _⟩, G1.out⟩
      · by_cases c2 : 5184000 - xl.o < n
        · obtain rfl : R = ([], 2) := by rw [HR.out]; exact mov_bad H0.out HE.out (.inr (by rw [HLO.out]; exact c2))
          go_wp2_with fail
          go_ret2
          exact ⟨⟨_, rfl, World.ownsRow_nil _ _ _ _⟩, G1.out⟩
        · obtain rfl : R = (movL L n, 0) := by rw [HR.out]; exact mov_good H0.out HE.out (by rw [HFI.out, HLO.out]; show ¬ (n < -x0.i ∨ 5184000 - xl.o < n); omega)
          have n1 : -5184000 ≤ n := by omega
          have n2 : n ≤ 5184000 := by omega
          go_wp2_with fail
          go_loopw [7, 39] (fun ov i wr => ∃ k : Nat, k ≤ L.length ∧ i = .int .i64 k ∧ Hid (wr.ownsRow D 57 5 ov (movL (L.take k) n).length ((movL (L.take k) n).flatMap pcV)) ∧ Hid (Below D w wr)) (fun _ i _ => L.length - (intOf i).toNat)
          case atStart => exact ⟨0, by omega, rfl, Lib.hid (World.ownsRow_nil _ _ _ _), G1⟩
          case round =>
            obtain ⟨k, hk, rfl, HO, G⟩ := hrel
            clear q0 r1 c1 c2
            have hDw : D ≤ wr.heap.size := by have := G.out.size; have := HD.out; omega
            by_cases hlt : k < L.length
            · have hlt2 : (k : Int) < (L.length : Int) := by omega
              obtain ⟨x, hx⟩ : ∃ x, L[k]? = some x := ⟨_, List.getElem?_eq_getElem hlt⟩
              have gx := sgl_bd (HG.out.2.1 x (List.mem_of_getElem? hx))
              have b1 := gx.1
              have b2 := gx.2.1
              have b3 := gx.2.2.1
              have b4 := gx.2.2.2.1
              have HRw := HS.out.ext (HD.out ▸ G.out)
              obtain ⟨q0, q1, q2, q3, q4⟩ := PcAt.get HRw hx
              have HST := Lib.hid (movL_step n hx)
              have hm : (movL (L.take k) n).length ≤ 64 := by unfold movL; rw [List.length_map, List.length_take]; omega
              generalize movL (L.take k) n = M at *
              clear HRw hx gx
              go_wp2_with (at_builtin; go_loud (refine wpList_append_lies _ rfl _ _ 22 rfl D 57 i0 (.agg #[.int .i64 0, .int .i64 0, .int .i64 0, .int .i64 0, .int .i64 0]) 5 40 Tryz.underlying22 HI0.out.1 HI0.out.2.1 HI0.out.2.2.1 HI0.out.2.2.2 rfl (by decide) _ M.length (M.flatMap pcV) rfl ((HO.out.alloc _).alloc _) ⟨wr.heap.size + 1, 0, none⟩ 1 1 (pcV (movO n x)) rfl rfl (CellsAt.all (by simp [CellsAt, go_sem, pcV, movO])) (by simp [Value.oneCell', pcV]) (by omega) (by simp only [maxLen]; omega) (by omega) (by simp; omega) _ rfl ?_))
              intro g' cap' w5 ho hgr hat hlt5
              have G5 := Lib.hid (show Below D w w5 from ((G.out.alloc hDw _).alloc (by simp; omega) _).grown hgr (by simp; omega) (own_base HO.out))
              have HO5 := Lib.hid (show w5.ownsRow D 57 5 (.slice (some ⟨g', 0, none⟩) (M.length + 1) cap') (M ++ [movO n x]).length ((M ++ [movO n x]).flatMap pcV) by
                rw [pflat_snoc, List.length_append]
                simpa using ho)
              rw [← HST.out] at HO5
              clear ho hgr hat hlt5
              go_wp2_with fail
              go_roundw
              case rel => exact ⟨k + 1, by omega, by go_num, HO5, G5⟩
              case measure => simp [intOf]; omega
            · obtain rfl : k = L.length := by omega
              rw [List.take_length] at HO
              clear hlt
              go_wp2_with fail
              go_ret2
              exact ⟨⟨_, rfl, HO.out⟩, G.out⟩
  · obtain ⟨E, hE⟩ : ∃ E, E = chkP L := ⟨_, rfl⟩
    obtain rfl : R = ([], E) := by rw [HR.out, hE]; unfold movP; rw [if_neg h0]
    rw [← hE] at HC h0
    have h0b : (E == 0) = false := by simpa using h0
    clear hE
    go_enter Tryz.func31, Tryz.ntmps31
    go_wp2_with fail
    refine HC.out.mono ?_
    rintro e w1 ⟨rfl, hb⟩
    have G1 := Lib.hid hb
    clear hb HC
    go_wp2_with fail
    go_ret2
    exact ⟨⟨_, rfl, World.ownsRow_nil _ _ _ _⟩, G1.out⟩
end Go.Proofs.YteojlodcafogaaaGreatDoor
