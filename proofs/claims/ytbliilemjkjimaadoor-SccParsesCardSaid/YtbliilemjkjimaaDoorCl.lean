/-
  The contract of Parse of layer 31. Its conditions are its hypotheses.
-/
import Derived.Test.YtbliilemjkjimaaDoorCk
import Derived.Test.YtbliilemjkjimaaDoorCi
import Derived.Test.YtbliilemjkjimaaDoorSx
namespace Go.Proofs.YtbliilemjkjimaaDoor
open Go.RowKit Go.Joins
set_option linter.unusedVariables false
set_option linter.unusedSimpArgs false
abbrev Mx (w : World) : Prop := ∃ m, w.cell? ⟨Tryd.laysM146_ren.g 1, 0, none⟩ = some (.int .i64 m)
theorem Mx.on {w w' : World} (h : Mx w) (hb : Below w.heap.size w w') : Mx w' := by
  obtain ⟨m, hm⟩ := h
  exact ⟨m, (hb.cell (World.block_lt_of_cell? w _ hm)).trans hm⟩
def linesB (s : ByteArray) : List ByteArray := Lib.splitB ⟨#[10]⟩ 0 (Lib.countB s ⟨#[10]⟩) s
theorem linesB_len (s : ByteArray) : (linesB s).length = Lib.countB s ⟨#[10]⟩ + 1 := Lib.splitB_all ⟨#[10]⟩ (by decide) 0 _ s rfl
theorem linesB_le (s : ByteArray) : (linesB s).length ≤ s.size + 1 := by
  rw [linesB_len]
  have := Lib.countB_le ⟨#[10]⟩ (by decide) s.size s (Nat.le_refl _)
  omega
theorem linesB_words (s : ByteArray) : (linesB s).map (·.data.toList) = wordsC 10 s.data.toList := split_wordsC 10 s
theorem split_any (s : ByteArray) (w : World) (hs : s.size < 4294967281) (hm : Mx w) :
    Calls Tryd.prog 38 #[.string s, .string ⟨#[10]⟩] w fun e w' => e = .returned (.slice (some ⟨w.heap.size, 0, none⟩) (linesB s).length (linesB s).length) ∧ w' = w.alloc (.cells ((linesB s).map Value.string).toArray 9) := by
  obtain ⟨m, hm⟩ := hm
  rw [linesB_len]
  exact Any.strings_Split { Tryd.laysM146 with } Tryd.laysM146.i9 s ⟨#[10]⟩ m w hs hm (by decide)
def ParseQ (l : List UInt8) (B : Nat) (w : World) (e : Ending) (w' : World) : Prop :=
  (match parseV l with
    | .ok q => ∃ A c, e = .returned (.tuple #[strm q.1 A (2 * q.2.length) c, .slice none 0 0]) ∧ BytesAt w' A (flat q.2) ∧ 2 * q.2.length ≤ c ∧ c ≤ maxLen
    | .error x => ∃ g, e = .returned (.tuple #[strm 0 none 0 0, .slice (some ⟨g, 0, none⟩) 1 1]) ∧ RowAt w' (some ⟨g, 0, none⟩) [.int .i64 x.1, .int .i64 x.2.1, .int .i64 x.2.2]) ∧ Below B w w'
theorem ParseQ.bad {l : List UInt8} {B : Nat} {w w' : World} {n c k : Int} {g : Nat} (h : parseV l = .error (n, c, k)) (hr : RowAt w' (some ⟨g, 0, none⟩) [.int .i64 n, .int .i64 c, .int .i64 k]) (hb : Below B w w') :
    ParseQ l B w (.returned (.tuple #[strm 0 none 0 0, .slice (some ⟨g, 0, none⟩) 1 1])) w' := by
  refine ⟨?_, hb⟩
  rw [h]
  exact ⟨g, rfl, hr⟩
theorem ParseQ.good {l : List UInt8} {B : Nat} {w w' : World} {f : Int} {q : List Pr} {A : Option Addr} {c : Nat} (h : parseV l = .ok (f, q)) (hr : BytesAt w' A (flat q)) (h1 : 2 * q.length ≤ c) (h2 : c ≤ maxLen) (hb : Below B w w') :
    ParseQ l B w (.returned (.tuple #[strm f A (2 * q.length) c, .slice none 0 0])) w' := by
  refine ⟨?_, hb⟩
  rw [h]
  exact ⟨A, c, rfl, hr, h1, h2⟩
theorem line_err {s : ByteArray} {r : Rd} {R base : Nat} {w : World} {c k : Int} (hv : lineV r s.data.toList = .error (c, k)) (hsm : s.size ≤ 1000000) (hr : RdAt w R base r) (hb : R < base ∧ base ≤ w.heap.size) (hg : Good r) :
    Calls Tryd.prog 39 #[.pointer (some ⟨R, 0, none⟩), .string s] w fun e w' => e = .returned (.tuple #[.int .i64 c, .int .i64 k]) ∧ Below R w w' := by
  refine (line_any s r R base w hsm hr hb (by
    cases hbg : r.begun with
    | true => have := hg.yes hbg; omega
    | false => rw [(hg.no hbg).2]; omega) hg.len).mono ?_
  rintro e w' ⟨h1, h2⟩
  rw [hv] at h1
  exact ⟨h1, h2⟩
theorem line_ok {s : ByteArray} {r r' : Rd} {R base : Nat} {w : World} (hv : lineV r s.data.toList = .ok r') (hsm : s.size ≤ 1000000) (hr : RdAt w R base r) (hb : R < base ∧ base ≤ w.heap.size) (hg : Good r) :
    Calls Tryd.prog 39 #[.pointer (some ⟨R, 0, none⟩), .string s] w fun e w' => e = .returned (.tuple #[.int .i64 0, .int .i64 0]) ∧ RdAt w' R base r' ∧ Below R w w' := by
  refine (line_any s r R base w hsm hr hb (by
    cases hbg : r.begun with
    | true => have := hg.yes hbg; omega
    | false => rw [(hg.no hbg).2]; omega) hg.len).mono ?_
  rintro e w' ⟨h1, h2⟩
  rw [hv] at h1
  exact ⟨h1.1, h1.2, h2⟩
theorem row_of_held {w : World} {g : Nat} {xs : List Value} (h : Held w g xs) : RowAt w (some ⟨g, 0, none⟩) xs := fun k u hk => ⟨g, 0, rfl, by rw [Nat.zero_add, h.cell]; exact hk⟩
def headB : ByteArray := ⟨#[83, 67, 67, 32, 49, 46, 48]⟩
set_option maxHeartbeats 1000000 in
theorem parse31_any (s : ByteArray) (w : World) (hs : s.size ≤ 1000000) (hm : Mx w) :
    Calls Tryd.prog 19 #[.string s] w (ParseQ s.data.toList w.heap.size w) := by
  obtain ⟨Ls, hLs⟩ : ∃ Ls, Ls = linesB s := ⟨_, rfl⟩
  have HLw := Lib.hid (show Ls.map (·.data.toList) = wordsC 10 s.data.toList by rw [hLs]; exact linesB_words s)
  have hLl : Ls.length ≤ s.size + 1 := by rw [hLs]; exact linesB_le s
  have HSP := Lib.hid (fun (w' : World) (hm' : Mx w') => by have := split_any s w' (by omega) hm'; rw [← hLs] at this; exact this)
  have HLS := Lib.hid (fun (x : ByteArray) (hx : x ∈ Ls) => show x.size ≤ 1000000 by
    have h1 := words_le 10 s.data.toList x.data.toList (by rw [← HLw.out]; exact List.mem_map.2 ⟨x, hx, rfl⟩)
    simp at h1
    omega)
  have HM := Lib.hid hm
  clear hLs hm
  obtain ⟨B, hB⟩ : ∃ B, B = w.heap.size := ⟨_, rfl⟩
  rw [← hB]
  go_enter Tryd.func19, Tryd.ntmps19
  go_wp2_with fail
  rw [← hB]
  generalize hw1 : World.alloc _ _ = w1
  have H2 := Lib.hid (show Held w1 B [.int .i64 0, .slice none 0 0] by subst hw1; exact Held.new hB)
  have FB := Lib.hid (show Below B w w1 by subst hw1; subst hB; exact below_one _ _)
  have HM1 := Lib.hid (show Mx w1 from HM.out.on (hB ▸ FB.out))
  clear hw1 hB
  refine (HSP.out _ HM1.out).mono ?_
  rintro e w2 ⟨rfl, hw2⟩
  obtain ⟨gL, hgL⟩ : ∃ gL, gL = w1.heap.size := ⟨_, rfl⟩
  rw [← hgL]
  have HLH := Lib.hid (show Held w2 gL (Ls.map Value.string) by rw [hw2]; exact Held.new hgL)
  replace H2 := Lib.hid (show Held w2 B _ by rw [hw2]; exact H2.out.alloc _)
  replace FB := Lib.hid (show Below B w w2 by rw [hw2]; exact FB.out.alloc (by have := FB.out.size; have := H2.out.lt; rw [hw2] at this; simp at this; omega) _)
  clear hw2 hgL HM1
  obtain ⟨l0, rest, rfl⟩ : ∃ l0 rest, Ls = l0 :: rest := by
    cases Ls with
    | nil => exact absurd HLw.out.symm (words_ne 10 _)
    | cons a b => exact ⟨a, b, rfl⟩
  have hrl : rest.length ≤ 1000000 := by simp at hLl; omega
  have HLL := Lib.hid hLl
  clear hLl
  have c0 := HLH.out.cell 0
  simp only [List.map_cons, List.getElem?_cons_zero] at c0
  have HLg := Lib.hid HLH.out.lt
  have hBw : B < w2.heap.size := H2.out.lt
  have z0 := H2.out.cell 0
  have z1 := H2.out.cell 1
  have y0 := H2.out.free 0
  have y1 := H2.out.free 1
  have za0 : ∀ o, (w2.alloc o).cell? ⟨B, 0, none⟩ = some (.int .i64 0) := fun o => (H2.out.alloc o).cell 0
  have za1 : ∀ o, (w2.alloc o).cell? ⟨B, 1, none⟩ = some (.slice none 0 0) := fun o => (H2.out.alloc o).cell 1
  have ya0 : ∀ o, (w2.alloc o).frozen? ⟨B, 0, none⟩ = false := fun o => (H2.out.alloc o).free 0
  have ya1 : ∀ o, (w2.alloc o).frozen? ⟨B, 1, none⟩ = false := fun o => (H2.out.alloc o).free 1
  simp only [List.getElem?_cons_zero, List.getElem?_cons_succ] at z0 z1
  by_cases hhd : l0 = headB
  · subst hhd
    unfold headB at *
    go_wp2_with fail
    obtain ⟨R, hR⟩ : ∃ R, R = w2.heap.size := ⟨_, rfl⟩
    have hBR : B < R := by omega
    rw [← hR]
    generalize hw3 : World.alloc _ _ = w3
    have RD := Lib.hid (show RdAt w3 R (R + 1) rd0 by subst hw3; exact ⟨none, 0, Held.new hR, World.ownsRow_nil _ _ _ _⟩)
    replace H2 := Lib.hid (show Held w3 B _ by subst hw3; exact H2.out.alloc _)
    replace HLH := Lib.hid (show Held w3 gL _ by subst hw3; exact HLH.out.alloc _)
    replace FB := Lib.hid (show Below B w w3 by subst hw3; exact FB.out.alloc (by omega) _)
    have hgR : gL < R := by rw [hR]; exact HLg.out
    have zR : R + 1 ≤ w3.heap.size := by subst hw3; simp [hR]
    have HPW := Lib.hid (show parseV s.data.toList = (linesV 2 rd0 (rest.map (·.data.toList))).map fun r => normV r.first r.ps by
      rw [parseV, ← HLw.out, List.map_cons, parseW, if_neg (by simp [headL])])
    clear hw3 hR z0 z1 y0 y1 za0 za1 ya0 ya1 c0 hBw HLw
    go_loopw [29] (fun i wr => ∃ (k : Nat) (r : Rd), k ≤ rest.length + 1 ∧ i = .int .i64 k ∧ Hid (RdAt wr R (R + 1) r) ∧ Hid (Below R w3 wr) ∧ R + 1 ≤ wr.heap.size ∧ Hid (Reads31 (rest.map (·.data.toList)) k r)) (fun i _ => rest.length + 1 - (intOf i).toNat)
    case atStart => exact ⟨0, rd0, by omega, rfl, RD, Lib.hid (Below.refl _ _), zR, Lib.hid (Reads31.start _)⟩
    case round =>
      obtain ⟨k, r, hk, rfl, RD, G, zR, HRd⟩ := hrel
      replace H2 := Lib.hid (H2.out.below G.out hBR)
      replace HLH := Lib.hid (HLH.out.below G.out hgR)
      replace FB := Lib.hid (FB.out.trans (G.out.mono (by omega)))
      by_cases hlt : k < rest.length + 1
      · obtain ⟨x, hx⟩ : ∃ x, ((⟨#[83, 67, 67, 32, 49, 46, 48]⟩ : ByteArray) :: rest)[k]? = some x := ⟨_, List.getElem?_eq_getElem (by simpa using hlt)⟩
        have ck : wr.cell? ⟨gL, k, none⟩ = some (.string x) := by rw [HLH.out.cell k, List.getElem?_map, hx]; rfl
        have HX := Lib.hid hx
        have hk0 : (0 : Int) ≤ (k : Int) := by omega
        have hk1 : (k : Int) < (rest.length : Int) + 1 := by omega
        have hxs := HLS.out x (List.mem_of_getElem? hx)
        clear hx
        by_cases hz : k = 0
        · have hzb : ((k : Int) == 0) = true := by rw [hz]; rfl
          have HZ := Lib.hid hz
          clear hz
          go_wp2_with fail
          go_roundw
          case rel => exact ⟨k + 1, r, by omega, by go_num, RD, G, zR, Lib.hid (by have e := HZ.out; subst e; exact HRd.out.first)⟩
          case measure => simp [intOf]; omega
        · have hzb : ((k : Int) == 0) = false := by rw [beq_eq_false_iff_ne]; omega
          have HXL := Lib.hid (show (rest.map (·.data.toList))[k - 1]? = some x.data.toList by
            have h1 := HX.out
            rw [show k = (k - 1) + 1 from by omega, List.getElem?_cons_succ] at h1
            rw [List.getElem?_map, h1]; rfl)
          by_cases he : x = ⟨#[]⟩
          · subst he
            go_wp2_with fail
            go_roundw
            case rel => exact ⟨k + 1, r, by omega, by go_num, RD, G, zR, Lib.hid (HRd.out.skip (by omega) HXL.out)⟩
            case measure => simp [intOf]; omega
          · have HNE := Lib.hid (show x.data.toList ≠ [] from fun e => he (ByteArray.ext (Array.toList_inj.1 e)))
            have t1 : x.toList.isEmpty = false := by rw [Lib.toList_data]; simpa using HNE.out
            have t2 : (x.toList == []) = false := by rw [Lib.toList_data, beq_eq_false_iff_ne]; exact HNE.out
            have t3 : ¬ x.toList = [] := by rw [Lib.toList_data]; exact HNE.out
            clear he
            cases hv : lineV r x.data.toList with
            | error ce =>
              obtain ⟨ec, ek⟩ := ce
              have HC := Lib.hid (fun (h : R + 1 ≤ wr.heap.size) => line_err hv hxs RD.out ⟨by omega, h⟩ HRd.out.2.2)
              have hek := lineV_err hv
              have HE := Lib.hid (show parseV s.data.toList = .error ((k : Int) + 1, ec, ek) by rw [HPW.out, HRd.out.fail (by omega) HXL.out HNE.out hv]; rfl)
              clear hv
              go_wp2_with fail
              refine (HC.out zR).mono ?_
              rintro e w5 ⟨rfl, hb⟩
              replace H2 := Lib.hid (H2.out.below hb hBR)
              replace FB := Lib.hid (FB.out.trans (hb.mono (by omega)))
              clear hb ck HC
              have hBw : B < w5.heap.size := H2.out.lt
              have z0 := H2.out.cell 0
              have z1 := H2.out.cell 1
              have y0 := H2.out.free 0
              have y1 := H2.out.free 1
              have za0 : ∀ o, (w5.alloc o).cell? ⟨B, 0, none⟩ = some (.int .i64 0) := fun o => (H2.out.alloc o).cell 0
              have za1 : ∀ o, (w5.alloc o).cell? ⟨B, 1, none⟩ = some (.slice none 0 0) := fun o => (H2.out.alloc o).cell 1
              have ya0 : ∀ o, (w5.alloc o).frozen? ⟨B, 0, none⟩ = false := fun o => (H2.out.alloc o).free 0
              have ya1 : ∀ o, (w5.alloc o).frozen? ⟨B, 1, none⟩ = false := fun o => (H2.out.alloc o).free 1
              simp only [List.getElem?_cons_zero, List.getElem?_cons_succ] at z0 z1
              go_wp2_with fail
              have r := (((H2.out).set 0 (.int .i64 0)).set 1 (.slice none 0 0)).alloc (.cells #[.int .i64 ((k : Int) + 1), .int .i64 ec, .int .i64 ek] 65)
              have rr := (show Held (((w5.setCell ⟨B, 0, none⟩ (.int .i64 0)).setCell ⟨B, 1, none⟩ (.slice none 0 0)).alloc (.cells #[.int .i64 ((k : Int) + 1), .int .i64 ec, .int .i64 ek] 65)) w5.heap.size [.int .i64 ((k : Int) + 1), .int .i64 ec, .int .i64 ek] from Held.new (by simp))
              have rb := (((FB.out).setCell (p := ⟨B, 0, none⟩) (by simp) (.int .i64 0)).setCell (p := ⟨B, 1, none⟩) (by simp) (.slice none 0 0)).alloc (by simp; omega) (.cells #[.int .i64 ((k : Int) + 1), .int .i64 ec, .int .i64 ek] 65)
              generalize World.alloc (World.setCell (World.setCell _ _ _) _ _) _ = w9 at *
              have r0 := r.cell 0
              have r1 := r.cell 1
              simp only [List.set_cons_zero, List.set_cons_succ, List.getElem?_cons_zero, List.getElem?_cons_succ] at r0 r1
              refine bodyPost_ret (by simp [results, Tryd.results19, r0, r1, go_sem]; try rfl) rfl ?_
              exact ParseQ.bad HE.out (row_of_held rr) rb
            | ok r' =>
              have HC := Lib.hid (fun (h : R + 1 ≤ wr.heap.size) => line_ok hv hxs RD.out ⟨by omega, h⟩ HRd.out.2.2)
              have HN := Lib.hid (HRd.out.next (by omega) HXL.out HNE.out hv)
              clear hv
              go_wp2_with fail
              refine (HC.out zR).mono ?_
              rintro e w5 ⟨rfl, hrd, hb⟩
              have HRD := Lib.hid hrd
              have HG := Lib.hid (G.out.trans hb)
              have zR5 := Nat.le_trans zR hb.size
              clear hb hrd ck HC
              go_wp2_with fail
              go_roundw
              case rel => exact ⟨k + 1, r', by omega, by go_num, HRD, HG, zR5, HN⟩
              case measure => simp [intOf]; omega
      · have hkn : k = rest.length + 1 := by omega
        have HKN := Lib.hid hkn
        have hkb : ¬ ((k : Int) < (rest.length : Int) + 1) := by omega
        have HFN := Lib.hid (show parseV s.data.toList = .ok (normV r.first r.ps) by rw [HPW.out, HRd.out.done (by simp; omega)]; rfl)
        clear hkn hlt
        obtain ⟨A0, cc, hh, ho⟩ := RD.out
        have q0 := hh.cell 0
        have q1 := hh.cell 1
        simp only [List.getElem?_cons_zero, List.getElem?_cons_succ] at q0 q1
        go_wp2_with fail
        have hgd := HRd.out.2.2
        have hfi : 0 ≤ r.first ∧ r.first ≤ 2592000 := by
          cases hbg : r.begun with
          | true => have := hgd.yes hbg; omega
          | false => rw [(hgd.no hbg).2]; omega
        have hlen := hgd.len
        obtain ⟨A9, c9, e9, r9, hc9, hm9, _⟩ := row_of_own ho
        cases e9
        have HNM := Lib.hid (norm_any r.first A0 (2 * r.ps.length) cc (flat r.ps) wr r9 (flat_len _).symm hc9 hm9 (by omega) ⟨by omega, by omega⟩)
        rw [prs_flat, fstV_norm hfi.1 (by omega) (by omega)] at HNM
        clear hh ho r9 hc9 hm9 q0 q1
        refine HNM.out.mono ?_
        rintro e w5 ⟨⟨A5, c5, rfl, hx5, hc5, hm5⟩, hb⟩
        replace H2 := Lib.hid (H2.out.ext hb)
        replace FB := Lib.hid (FB.out.trans (hb.mono (by omega)))
        have e2 := normV_2 r.first r.ps
        rw [← e2] at hx5 hc5 ⊢
        generalize normV r.first r.ps = nv at *
        obtain ⟨F5, q5⟩ := nv
        simp only [] at hx5 hc5 ⊢
        have HX5 := Lib.hid hx5
        have HC5 := Lib.hid (And.intro hc5 hm5)
        clear hb hx5 hc5 hm5 HNM hgd e2
        unfold strm
        have z0 := H2.out.cell 0
        have z1 := H2.out.cell 1
        have y0 := H2.out.free 0
        have y1 := H2.out.free 1
        simp only [List.getElem?_cons_zero, List.getElem?_cons_succ] at z0 z1
        go_wp2_with fail
        have r := (H2.out.set 0 (.int .i64 F5)).set 1 (.slice A5 (2 * q5.length) c5)
        have rb := (FB.out.setCell (p := ⟨B, 0, none⟩) (by simp) (.int .i64 F5)).setCell (p := ⟨B, 1, none⟩) (by simp) (.slice A5 (2 * q5.length) c5)
        have rx := bytes_other (bytes_other HX5.out H2.out (byte_no _ _ _ _) 0 (.int .i64 F5)) (H2.out.set 0 (.int .i64 F5)) (byte_no F5 none 0 0) 1 (.slice A5 (2 * q5.length) c5)
        generalize World.setCell (World.setCell _ _ _) _ _ = w9 at *
        have r0 := r.cell 0
        have r1 := r.cell 1
        simp only [List.set_cons_zero, List.set_cons_succ, List.getElem?_cons_zero, List.getElem?_cons_succ] at r0 r1
        refine bodyPost_ret (by simp [results, Tryd.results19, r0, r1, go_sem]; try rfl) rfl ?_
        exact ParseQ.good HFN.out rx HC5.out.1 HC5.out.2 rb
  · have tn : (!l0.toList == [83, 67, 67, 32, 49, 46, 48]) = true := by
      rw [Lib.toList_data]
      simp only [Bool.not_eq_true', beq_eq_false_iff_ne, ne_eq]
      intro e
      exact hhd (ByteArray.ext (Array.toList_inj.1 e))
    have HP := Lib.hid (show parseV s.data.toList = .error (1, 1, 4) by
      rw [parseV, ← HLw.out, List.map_cons, parseW, if_pos]
      intro e
      exact hhd (ByteArray.ext (Array.toList_inj.1 e)))
    clear hhd
    go_wp2_with fail
    have r := (((H2.out).set 0 (.int .i64 0)).set 1 (.slice none 0 0)).alloc (.cells #[.int .i64 1, .int .i64 1, .int .i64 4] 65)
    have rr := (show Held (((w2.setCell ⟨B, 0, none⟩ (.int .i64 0)).setCell ⟨B, 1, none⟩ (.slice none 0 0)).alloc (.cells #[.int .i64 1, .int .i64 1, .int .i64 4] 65)) w2.heap.size [.int .i64 1, .int .i64 1, .int .i64 4] from Held.new (by simp))
    have rb := (((FB.out).setCell (p := ⟨B, 0, none⟩) (by simp) (.int .i64 0)).setCell (p := ⟨B, 1, none⟩) (by simp) (.slice none 0 0)).alloc (by simp; omega) (.cells #[.int .i64 1, .int .i64 1, .int .i64 4] 65)
    generalize World.alloc (World.setCell (World.setCell _ _ _) _ _) _ = w9 at *
    have r0 := r.cell 0
    have r1 := r.cell 1
    simp only [List.set_cons_zero, List.set_cons_succ, List.getElem?_cons_zero, List.getElem?_cons_succ] at r0 r1
    refine bodyPost_ret (by simp [results, Tryd.results19, r0, r1, go_sem]; try rfl) rfl ?_
    exact ParseQ.bad HP.out (row_of_held rr) rb
end Go.Proofs.YtbliilemjkjimaaDoor
