/-
  The contract of Parse of the reference of layer 31. Its conditions are its hypotheses.
-/
import Derived.Test.YtbliilemjkjimaaDoorDe
import Derived.Test.YtbliilemjkjimaaDoorCf
import Derived.Test.YtbliilemjkjimaaDoorCl
import Derived.Test.YtbliilemjkjimaaDoorSy
import Derived.Test.YtbliilemjkjimaaDoorC4
import Derived.RegionTactic
import Derived.Deep.Light
import Derived.BigRegion
namespace Go.Proofs.YtbliilemjkjimaaDoor
open Go.RowKit Go.Joins
set_option linter.unusedVariables false
set_option linter.unusedSimpArgs false
theorem parser_none {s : ByteArray} (hs : s.size = 11) (h : labR s.data.toList = none) (w : World) :
    Calls Tryd.prog 42 #[.int .u8 4, .string s] w fun e w' => ∃ k : Int, e = .returned (.tuple #[.agg #[.int .i64 0, .int .i64 0, .int .i64 0, .int .i64 0, .bool false], .int .i64 k]) ∧ (k != 0) = true ∧ Below w.heap.size w w' := by
  refine (parser_any s w hs).mono ?_
  rintro e w' ⟨h1, h2⟩
  rw [h] at h1
  obtain ⟨k, hk, rfl⟩ := h1
  exact ⟨k, rfl, hk, h2⟩
theorem parser_some {s : ByteArray} {L : Lab} (hs : s.size = 11) (h : labR s.data.toList = some L) (w : World) :
    Calls Tryd.prog 42 #[.int .u8 4, .string s] w fun e w' => e = .returned (.tuple #[labA L, .int .i64 0]) ∧ Below w.heap.size w w' := by
  refine (parser_any s w hs).mono ?_
  rintro e w' ⟨h1, h2⟩
  rw [h] at h1
  exact ⟨h1, h2⟩
theorem pairsr_bad {s : ByteArray} {k : Nat} (hs : s.size ≤ 1000) (h : prV s.data.toList = .error k) (w : World) :
    Calls Tryd.prog 43 #[.string s] w fun e w' => e = .returned (.tuple #[.slice none 0 0, .int .i64 k]) ∧ Below w.heap.size w w' := by
  refine (pairsr_any s w hs).mono ?_
  rintro e w' ⟨h1, h2⟩
  rw [h] at h1
  exact ⟨h1, h2⟩
theorem pairsr_good {s : ByteArray} {p : List Pr} (hs : s.size ≤ 1000) (h : prV s.data.toList = .ok p) (w : World) :
    Calls Tryd.prog 43 #[.string s] w fun e w' => (∃ v, e = .returned (.tuple #[v, .int .i64 (-1)]) ∧ w'.ownsRow w.heap.size 5 1 v (2 * p.length) ((flat p).map byteV)) ∧ Below w.heap.size w w' := by
  refine (pairsr_any s w hs).mono ?_
  rintro e w' ⟨h1, h2⟩
  rw [h] at h1
  exact ⟨h1, h2⟩
theorem prL_ne : ∀ {s : List UInt8} {i : Nat} {p : List Pr}, prL i s = .ok p → s ≠ [] → p ≠ []
  | [], _, _, _, h => absurd rfl h
  | [_], _, _, h, _ => by simp [prL] at h
  | [_, _], _, _, h, _ => by simp [prL] at h
  | [_, _, _], _, _, h, _ => by simp [prL] at h
  | [_, _, _, _], _, _, h, _ => by simp [prL] at h
  | x :: a :: b :: c :: d :: r, i, p, h, _ => by
    rw [prL] at h
    split at h
    · split at h
      · cases e : prL (i + 5) r with
        | error z => rw [e] at h; cases h
        | ok q =>
          rw [e] at h
          simp only [Except.map, Except.ok.injEq] at h
          subst h
          simp
      · cases h
    · cases h
theorem prV_ne {s : List UInt8} {p : List Pr} (h : prV s = .ok p) : 0 < p.length ∧ 5 * p.length ≤ s.length := by
  unfold prV at h
  split at h
  · cases h
  · rename_i hs
    exact ⟨List.length_pos_iff.2 (prL_ne h hs), prL_len _ _ _ h⟩
def StAt (w : World) (R base : Nat) (r : Rd) : Prop := ∃ A c, Held w R [.int .i64 r.first, .slice A (2 * r.ps.length) c] ∧ w.ownsRow base 5 1 (.slice A (2 * r.ps.length) c) (2 * r.ps.length) ((flat r.ps).map byteV)
theorem StAt.ext {w w' : World} {R base : Nat} {r : Rd} (h : StAt w R base r) (hb : Below w.heap.size w w') : StAt w' R base r := by
  obtain ⟨A, c, h1, h2⟩ := h
  exact ⟨A, c, h1.ext hb, ownsRow_below h2 hb (Nat.le_refl _)⟩
theorem below_step {R : Nat} {w w1 w2 : World} (h : Below R w w1) (hR : R ≤ w.heap.size) (hb : Below w1.heap.size w1 w2) : Below R w w2 := h.trans (hb.mono (Nat.le_trans hR h.size))
theorem words_len (c : UInt8) : ∀ (l : List UInt8), (wordsC c l).length ≤ l.length + 1
  | [] => by simp [wordsC]
  | b :: r => by
    have := words_len c r
    rw [wordsC]
    split
    · simp; omega
    · have h2 := addW_len b (wordsC c r)
      simp
      have h3 : (addW b (wordsC c r)).length = (wordsC c r).length ∨ wordsC c r = [] := by
        cases wordsC c r with
        | nil => exact .inr rfl
        | cons a t => exact .inl rfl
      rcases h3 with h3 | h3
      · omega
      · exact absurd h3 (words_ne c r)
theorem split_mem {s x : List UInt8} (h : x ∈ splitL s) : x.length ≤ s.length := by
  unfold splitL at h
  split at h
  · exact words_le 10 s x ((List.dropLast_sublist _).subset h)
  · exact words_le 10 s x h
theorem split_len (s : List UInt8) : (splitL s).length ≤ s.length + 1 := by
  unfold splitL
  have := words_len 10 s
  split
  · rw [List.length_dropLast]; omega
  · exact this
theorem parser_res {tm : Array Value} {w : World} {B : Nat} {x y v : Value} (h2 : tm.getD 2 undef = .pointer (some ⟨B, 0, none⟩)) (h3 : tm.getD 3 undef = v) (r0 : w.cell? ⟨B, 0, none⟩ = some x) (r1 : w.cell? ⟨B, 1, none⟩ = some y) : (results Tryd.f20 tm).run Tryd.prog w = .ok (.tuple #[.agg #[x, y], v]) w := by
  simp only [Array.getD_eq_getD_getElem?] at h2 h3
  simp [results, Tryd.results20, h2, h3, r0, r1, go_sem]
def StopAt (p : Prop) : Prop := p
theorem stop_at {P : Program} {fn : Func} {R : Ending → World → Prop} {a : Act} {w : World} (h : StopAt (bodyPost P fn R .ret a w)) : bodyPost P fn R .ret a w := h
theorem Held.two {w : World} {g : Nat} {a b : Value} (h : Held w g [a, b]) : w.cell? ⟨g, 0, none⟩ = some a ∧ w.cell? ⟨g, 1, none⟩ = some b ∧ w.frozen? ⟨g, 0, none⟩ = false ∧ w.frozen? ⟨g, 1, none⟩ = false := h.pair
theorem prL_err : ∀ {s : List UInt8} {i k : Nat}, prL i s = .error k → k ≤ i + s.length
  | [], _, _, h => by rw [prL] at h; cases h
  | [_], i, k, h => by simp [prL] at h; omega
  | [_, _], i, k, h => by simp [prL] at h; omega
  | [_, _, _], i, k, h => by simp [prL] at h; omega
  | [_, _, _, _], i, k, h => by simp [prL] at h; omega
  | x :: a :: b :: c :: d :: r, i, k, h => by
    rw [prL] at h
    split at h
    · split at h
      · cases e : prL (i + 5) r with
        | ok z => rw [e] at h; cases h
        | error q =>
          rw [e] at h
          have := prL_err e
          simp only [Except.map, Except.error.injEq] at h
          subst h
          simp
          omega
      · cases h; omega
    · cases h; omega
theorem prV_err {s : List UInt8} {k : Nat} (h : prV s = .error k) : k ≤ s.length := by
  unfold prV at h
  split at h
  · cases h; omega
  · have := prL_err h
    omega
set_option maxRecDepth 100000 in
set_option maxHeartbeats 8000000 in
theorem parser31_any (s : ByteArray) (w : World) (hs : s.size ≤ 1000) :
    Calls Tryd.prog 20 #[.string s] w (ParseQ s.data.toList w.heap.size w) := by
  obtain ⟨i0, hi, hz0, hz1, hz2⟩ := info_parts i5
  have HI0 := Lib.hid (And.intro hi (And.intro hz0 (And.intro hz1 hz2)))
  clear hi hz0 hz1 hz2
  have HPS := Lib.hid (parse_split s.data.toList)
  have HLS := Lib.hid (fun (x : List UInt8) (hx : x ∈ splitL s.data.toList) => show x.length ≤ 1000 from by have := split_mem hx; simp at this; omega)
  have hll : (splitL s.data.toList).length ≤ 1001 := by have := split_len s.data.toList; simp at this; omega
  have HSP := Lib.hid (fun (w' : World) => splitr_any s w' hs)
  obtain ⟨B, hB⟩ : ∃ B, B = w.heap.size := ⟨_, rfl⟩
  rw [← hB]
  have tbig : decide ((2097152 : Int) < (s.size : Int)) = false := by simp; omega
  go_enter Tryd.func20, Tryd.ntmps20
  go_wp2_with fail
  clear tbig
  rw [← hB]
  generalize hw1 : World.alloc _ _ = w1
  have H2 := Lib.hid (show Held w1 B [.int .i64 0, .slice none 0 0] by subst hw1; exact Held.new hB)
  have FB := Lib.hid (show Below B w w1 by subst hw1; subst hB; exact below_one _ _)
  clear hw1 hB
  refine (HSP.out _).mono ?_
  rintro e w2 ⟨⟨A4, c4, rfl, hr4⟩, hb⟩
  have HR4 := Lib.hid hr4
  replace FB := Lib.hid (FB.out.trans (hb.mono (Nat.le_of_lt H2.out.lt)))
  replace H2 := Lib.hid (H2.out.ext hb)
  have hBw2 : B < w2.heap.size := H2.out.lt
  clear hb hr4 HSP
  generalize splitL s.data.toList = LS at *
  cases LS with
  | nil =>
    have HE := Lib.hid (show parseV s.data.toList = .error (1, 1, 4) from HPS.out)
    obtain ⟨wr, hwr⟩ : ∃ wr, wr = w2 := ⟨_, rfl⟩
    obtain ⟨R, hR⟩ : ∃ R, R = w2.heap.size := ⟨_, rfl⟩
    have hBR : B < R := by omega
    have zRw : R ≤ wr.heap.size := by rw [hwr, hR]; exact Nat.le_refl _
    have HBX := Lib.hid (show Below R wr w2 by rw [hwr, hR]; exact Below.refl _ _)
    have H2r := Lib.hid (show Held wr B [.int .i64 0, .slice none 0 0] by rw [hwr]; exact H2.out)
    have FBr := Lib.hid (show Below B w wr by rw [hwr]; exact FB.out)
    clear hwr hR
    simp only [List.length_nil]
    go_wp2_with fail
    refine (failed_any _ _ _ _).mono ?_
    rintro e wf ⟨⟨gf, hgf, rfl, hrf⟩, hbf⟩
    have HBF := Lib.hid (below_step HBX.out zRw hbf)
    have HRF := Lib.hid hrf
    have H2f := Lib.hid (H2r.out.below HBF.out hBR)
    have FBf := Lib.hid (FBr.out.trans (HBF.out.mono (Nat.le_of_lt hBR)))
    have hgB : gf ≠ B := by have := HBX.out.size; omega
    clear hbf hrf hgf
    unfold strm
    try (rename (∀ (a : Act) (w : World), Code.wp _ (Code.seq _ _) _ a w → (_ : Act → World → Prop) a w) => hbigK; clear hbigK)
    obtain ⟨z0, z1, y0, y1⟩ := H2f.out.two
    have r9 := Lib.hid ((H2f.out.set 0 (.int .i64 0)).set 1 (.slice none 0 0))
    have r0 := r9.out.cell 0
    have r1 := r9.out.cell 1
    simp only [List.set_cons_zero, List.set_cons_succ, List.getElem?_cons_zero, List.getElem?_cons_succ] at r0 r1
    go_wp2_with (with_reducible refine stop_at ?_)
    unfold StopAt
    have rb := (FBf.out.setCell (p := ⟨B, 0, none⟩) (by simp) (.int .i64 0)).setCell (p := ⟨B, 1, none⟩) (by simp) (.slice none 0 0)
    have rx := (RowAt.other HRF.out hgB 0 (.int .i64 0)).other hgB 1 (.slice none 0 0)
    refine bodyPost_ret (by exact parser_res rfl rfl r0 r1) rfl ?_
    exact ParseQ.bad HE.out rx rb
  | cons h0 t =>
    have htl : t.length ≤ 1000 := by simp at hll; omega
    obtain ⟨b4, o4, rfl, c40⟩ := HR4.out.get (k := 0) (by simp)
    rw [Nat.add_zero, show (((h0 :: t).map strV)[0]'(by simp)) = .string (sB h0) from rfl] at c40
    by_cases hh : h0 = headL
    · subst hh
      have c40' : w2.cell? ⟨b4, o4, none⟩ = some (.string ⟨#[83, 67, 67, 32, 49, 46, 48]⟩) := c40
      have HPW := Lib.hid (show parseV s.data.toList = (linesV 2 rd0 t).map fun r => normV r.first r.ps by rw [HPS.out, parseW, if_neg (by simp)])
      clear c40 hll
      go_wp2_with fail
      clear c40'
      obtain ⟨R, hR⟩ : ∃ R, R = w2.heap.size := ⟨_, rfl⟩
      have hBR : B < R := by omega
      rw [← hR]
      generalize hw3 : World.alloc _ _ = w3
      have ST0 := Lib.hid (show StAt w3 R (R + 1) rd0 by subst hw3; exact ⟨none, 0, Held.new hR, World.ownsRow_nil _ _ _ _⟩)
      have G0 := Lib.hid (show Below R w2 w3 by subst hw3; rw [hR]; exact below_one _ _)
      have zR0 : R + 1 ≤ w3.heap.size := by subst hw3; simp [hR]
      have HRW := Lib.hid hR
      clear hw3 hR
      go_loopw [6, 7, 39] (fun b d i wr => ∃ (k : Nat) (r : Rd), k ≤ t.length + 1 ∧ i = .int .i64 k ∧ b = .bool r.begun ∧ d = .bool r.drop ∧ Hid (StAt wr R (R + 1) r) ∧ Hid (Below R w2 wr) ∧ R + 1 ≤ wr.heap.size ∧ Hid (Reads31 t k r)) (fun _ _ i _ => t.length + 1 - (intOf i).toNat)
      case atStart => exact ⟨0, rd0, by omega, rfl, rfl, rfl, ST0, G0, zR0, Lib.hid (Reads31.start _)⟩
      case round =>
        obtain ⟨k, r, hk, rfl, rfl, rfl, ST, G, zR, HRd⟩ := hrel
        obtain ⟨rb, rdr, fi, ps⟩ := r
        have hgd0 := HRd.out.2.2
        have hlen0 : ps.length ≤ 200000 := hgd0.len
        have hfi0 : 0 ≤ fi ∧ fi ≤ 2592000 := by
          cases hbg : rb with
          | true => have := hgd0.yes hbg; simp only [] at this; omega
          | false => have := (hgd0.no hbg).2; simp only [] at this; omega
        clear hgd0
        simp only []
        have H2r := Lib.hid (H2.out.below G.out hBR)
        have FBr := Lib.hid (FB.out.trans (G.out.mono (Nat.le_of_lt hBR)))
        have zRw : R ≤ wr.heap.size := by omega
        obtain ⟨wk, hwk⟩ : ∃ wk, wk = wr := ⟨_, rfl⟩
        by_cases hlt : k < t.length + 1
        · obtain ⟨x, hx⟩ : ∃ x, (headL :: t)[k]? = some x := ⟨_, List.getElem?_eq_getElem (by simpa using hlt)⟩
          have ck : wr.cell? ⟨b4, o4 + k, none⟩ = some (.string (sB x)) := by
            have h1 := RowAt.below HR4.out G.out (by rw [HRW.out]; exact Nat.le_refl _)
            obtain ⟨b, o, e, h2⟩ := h1 k (strV x) (by rw [List.getElem?_map, hx]; rfl)
            cases e
            exact h2
          have HX := Lib.hid hx
          have hk0 : (0 : Int) ≤ (k : Int) := by omega
          have hk1 : (k : Int) < (t.length : Int) + 1 := by omega
          have hk2 : (t.length : Int) ≤ 1000 := by omega
          have hxs := HLS.out x (List.mem_of_getElem? hx)
          clear hx
          by_cases hz : k = 0
          · have hzb : ((k : Int) == 0) = true := by rw [hz]; rfl
            have HZ := Lib.hid hz
            clear hz hwk
            go_wp2_with fail
            go_roundw
            case rel => exact ⟨k + 1, ⟨rb, rdr, fi, ps⟩, by omega, by go_num, rfl, rfl, ST, G, zR, Lib.hid (by have e := HZ.out; subst e; exact HRd.out.first)⟩
            case measure => simp [intOf]; omega
          · have hzb : ((k : Int) == 0) = false := by rw [beq_eq_false_iff_ne]; omega
            have HXL := Lib.hid (show t[k - 1]? = some x by
              have h1 := HX.out
              rw [show k = (k - 1) + 1 from by omega, List.getElem?_cons_succ] at h1
              exact h1)
            by_cases he : x = []
            · subst he
              have ck' : wr.cell? ⟨b4, o4 + k, none⟩ = some (.string ⟨#[]⟩) := ck
              clear ck hwk
              go_wp2_with fail
              go_roundw
              case rel => exact ⟨k + 1, ⟨rb, rdr, fi, ps⟩, by omega, by go_num, rfl, rfl, ST, G, zR, Lib.hid (HRd.out.skip (by omega) HXL.out)⟩
              case measure => simp [intOf]; omega
            · have HNE1 := Lib.hid he
              have HLE := Lib.hid (fun (c e : Int) (h : lineV ⟨rb, rdr, fi, ps⟩ x = .error (c, e)) => show parseV s.data.toList = .error ((k : Int) + 1, c, e) by rw [HPW.out, HRd.out.fail (by omega) HXL.out he h]; rfl)
              obtain ⟨sx, hsx⟩ : ∃ sx, sx = sB x := ⟨_, rfl⟩
              rw [← hsx] at ck
              have HSX := Lib.hid (show sx.data.toList = x by rw [hsx]; rfl)
              have hxz : sx.size ≤ 1000 := by rw [hsx, sB_size]; exact hxs
              have HSZ := Lib.hid (show sx.size = x.length by rw [hsx, sB_size])
              have t1 : sx.toList.isEmpty = false := by rw [Lib.toList_data, HSX.out]; simpa using he
              have t2 : (sx.toList == []) = false := by rw [Lib.toList_data, beq_eq_false_iff_ne, HSX.out]; exact he
              have t3 : ¬ sx.toList = [] := by rw [Lib.toList_data, HSX.out]; exact he
              have HBX := Lib.hid (show Below R wk wr by rw [hwk]; exact Below.refl _ _)
              have H2w := Lib.hid (show Held wk B [.int .i64 0, .slice none 0 0] by rw [hwk]; exact H2r.out)
              have FBw := Lib.hid (show Below B w wk by rw [hwk]; exact FBr.out)
              have zRk : R ≤ wk.heap.size := by rw [hwk]; exact zRw
              have Gk := Lib.hid (show Below R w2 wk by rw [hwk]; exact G.out)
              clear he hsx hxs H2r FBr zRw hwk G
              have H2r := H2w
              have FBr := FBw
              have zRw := zRk
              have G := Gk
              clear H2w FBw zRk Gk
              by_cases h11 : sx.size < 11
              · have HE := Lib.hid (HLE.out 1 4 (lineV_short (by rw [← HSZ.out]; exact h11)))
                go_wp2_with fail
                clear t1 t2 t3
                refine (failed_any _ _ _ _).mono ?_
                rintro e wf ⟨⟨gf, hgf, rfl, hrf⟩, hbf⟩
                have HBF := Lib.hid (below_step HBX.out zRw hbf)
                have HRF := Lib.hid hrf
                have H2f := Lib.hid (H2r.out.below HBF.out hBR)
                have FBf := Lib.hid (FBr.out.trans (HBF.out.mono (Nat.le_of_lt hBR)))
                have hgB : gf ≠ B := by have := HBX.out.size; omega
                clear hbf hrf hgf
                unfold strm
                try (rename (∀ (a : Act) (w : World), Code.wp _ (Code.seq _ _) _ a w → (_ : Act → World → Prop) a w) => hbigK; clear hbigK)
                obtain ⟨z0, z1, y0, y1⟩ := H2f.out.two
                have r9 := Lib.hid ((H2f.out.set 0 (.int .i64 0)).set 1 (.slice none 0 0))
                have r0 := r9.out.cell 0
                have r1 := r9.out.cell 1
                simp only [List.set_cons_zero, List.set_cons_succ, List.getElem?_cons_zero, List.getElem?_cons_succ] at r0 r1
                go_wp2_with (with_reducible refine stop_at ?_)
                unfold StopAt
                have rb := (FBf.out.setCell (p := ⟨B, 0, none⟩) (by simp) (.int .i64 0)).setCell (p := ⟨B, 1, none⟩) (by simp) (.slice none 0 0)
                have rx := (RowAt.other HRF.out hgB 0 (.int .i64 0)).other hgB 1 (.slice none 0 0)
                refine bodyPost_ret (by exact parser_res rfl rfl r0 r1) rfl ?_
                exact ParseQ.bad HE.out rx rb
              · have h11' : 11 ≤ sx.size := by omega
                have hsl := fun w' => slice_to h11' w'
                have hsr := fun w' => slice_str (s := sx) (x := 11) (k := 11) rfl h11' w'
                have hxl : ¬ x.length < 11 := by rw [← HSZ.out]; exact h11
                have HXB := Lib.hid hxl
                have HTK := Lib.hid (show (sx.extract 0 11).data.toList = x.take 11 by rw [take_11, HSX.out])
                cases hlab : labR (x.take 11) with
                | none =>
                  have HC := Lib.hid (fun w' => parser_none (s := sx.extract 0 11) (size_11 h11') (by rw [HTK.out]; exact hlab) w')
                  have HE := Lib.hid (HLE.out 1 4 (lineV_lab hxl hlab))
                  clear hlab hxl h11
                  go_wp2_with fail
                  refine (HC.out _).mono ?_
                  rintro e w5 ⟨kk, rfl, hkk, hb⟩
                  replace HBX := Lib.hid (below_step HBX.out zRw hb)
                  have zz5 : R ≤ w5.heap.size := Nat.le_trans zRw HBX.out.size
                  replace HBX := Lib.hid (HBX.out.alloc zz5 (.cells #[.int .i64 0, .int .i64 0, .int .i64 0, .int .i64 0, .bool false] 56))
                  clear hb HC t1 t2 t3 hsl hsr ck
                  go_wp2_with fail
                  refine (failed_any _ _ _ _).mono ?_
                  rintro e wf ⟨⟨gf, hgf, rfl, hrf⟩, hbf⟩
                  have HBF := Lib.hid (below_step HBX.out zRw hbf)
                  have HRF := Lib.hid hrf
                  have H2f := Lib.hid (H2r.out.below HBF.out hBR)
                  have FBf := Lib.hid (FBr.out.trans (HBF.out.mono (Nat.le_of_lt hBR)))
                  have hgB : gf ≠ B := by have := HBX.out.size; omega
                  clear hbf hrf hgf
                  unfold strm
                  try (rename (∀ (a : Act) (w : World), Code.wp _ (Code.seq _ _) _ a w → (_ : Act → World → Prop) a w) => hbigK; clear hbigK)
                  obtain ⟨z0, z1, y0, y1⟩ := H2f.out.two
                  have r9 := Lib.hid ((H2f.out.set 0 (.int .i64 0)).set 1 (.slice none 0 0))
                  have r0 := r9.out.cell 0
                  have r1 := r9.out.cell 1
                  simp only [List.set_cons_zero, List.set_cons_succ, List.getElem?_cons_zero, List.getElem?_cons_succ] at r0 r1
                  go_wp2_with (with_reducible refine stop_at ?_)
                  unfold StopAt
                  have rb := (FBf.out.setCell (p := ⟨B, 0, none⟩) (by simp) (.int .i64 0)).setCell (p := ⟨B, 1, none⟩) (by simp) (.slice none 0 0)
                  have rx := (RowAt.other HRF.out hgB 0 (.int .i64 0)).other hgB 1 (.slice none 0 0)
                  refine bodyPost_ret (by exact parser_res rfl rfl r0 r1) rfl ?_
                  exact ParseQ.bad HE.out rx rb
                | some LB =>
                  obtain ⟨lh, lm, ls, lf, ld⟩ := LB
                  have HC := Lib.hid (fun w' => parser_some (s := sx.extract 0 11) (size_11 h11') (by rw [HTK.out]; exact hlab) w')
                  have HLB0 := Lib.hid hlab
                  have HCL := Lib.hid (show chkL ⟨lh, lm, ls, lf, ld⟩ = 0 by
                    rw [labR] at hlab
                    cases hw : labW (x.take 11) with
                    | none => rw [hw] at hlab; cases hlab
                    | some L' =>
                      rw [hw] at hlab
                      simp only [Option.bind_some] at hlab
                      split at hlab
                      · cases hlab; assumption
                      · cases hlab)
                  clear hlab hxl h11
                  go_wp2_with fail
                  refine (HC.out _).mono ?_
                  rintro e w5 ⟨rfl, hb⟩
                  simp only [labA]
                  replace HBX := Lib.hid (below_step HBX.out zRw hb)
                  replace ST := Lib.hid (ST.out.ext hb)
                  clear hb HC t1 t2 t3 hsl ck
                  have zz5 : R ≤ w5.heap.size := Nat.le_trans zRw HBX.out.size
                  have st5 := ST.out
                  obtain ⟨A0, c0, hh0, ho0⟩ := st5
                  have hR5 : R < w5.heap.size := hh0.lt
                  obtain ⟨g1, hg1⟩ : ∃ g1, g1 = w5.heap.size := ⟨_, rfl⟩
                  have hbw5 := fun o => below_one w5 o
                  cases rb
                  · skip
                    go_wp2_with fail
                    clear hbw5
                    rw [← hg1]
                    generalize hw6 : World.alloc _ _ = w6
                    have HLB := Lib.hid (show Held w6 g1 [.int .i64 lh, .int .i64 lm, .int .i64 ls, .int .i64 lf, .bool ld] by subst hw6; exact Held.new hg1)
                    replace HBX := Lib.hid (show Below R wk w6 by subst hw6; exact HBX.out.alloc zz5 _)
                    replace ST := Lib.hid (show StAt w6 R (R + 1) ⟨false, rdr, fi, ps⟩ by subst hw6; exact ST.out.ext (below_one _ _))
                    have zz6 : R ≤ w6.heap.size := Nat.le_trans zRw HBX.out.size
                    clear hw6 hh0 ho0 hg1 zz5
                    have hsz11 : (sx.extract 11 sx.size).size ≤ 1000 := by simp; omega
                    have HDT := Lib.hid (show (sx.extract 11 sx.size).data.toList = x.drop 11 by rw [Lib.extract_to_end, HSX.out])
                    have HL3 := Lib.hid (show ¬ ((⟨false, rdr, fi, ps⟩ : Rd).begun = true ∧ (⟨lh, lm, ls, lf, ld⟩ : Lab).d ≠ (⟨false, rdr, fi, ps⟩ : Rd).drop) by simp)
                    cases hpv : prV (x.drop 11) with
                    | error kk =>
                      have HE := Lib.hid (HLE.out (12 + kk) 4 (lineV_pair HXB.out HLB0.out HL3.out hpv))
                      have HKK := Lib.hid (fun w' => pairsr_bad (s := sx.extract 11 sx.size) hsz11 (by rw [HDT.out]; exact hpv) w')
                      have hkk : kk ≤ 100000 := by
                        have := prV_err hpv
                        simp at this
                        have := HSZ.out
                        omega
                      clear hpv
                      refine (HKK.out _).mono ?_
                      rintro e w7 ⟨rfl, hb⟩
                      replace HBX := Lib.hid (below_step HBX.out zRw hb)
                      clear hb HKK
                      go_wp2_with fail
                      refine (failed_any _ _ _ _).mono ?_
                      rintro e wf ⟨⟨gf, hgf, rfl, hrf⟩, hbf⟩
                      have HBF := Lib.hid (below_step HBX.out zRw hbf)
                      have HRF := Lib.hid hrf
                      have H2f := Lib.hid (H2r.out.below HBF.out hBR)
                      have FBf := Lib.hid (FBr.out.trans (HBF.out.mono (Nat.le_of_lt hBR)))
                      have hgB : gf ≠ B := by have := HBX.out.size; omega
                      clear hbf hrf hgf
                      unfold strm
                      try (rename (∀ (a : Act) (w : World), Code.wp _ (Code.seq _ _) _ a w → (_ : Act → World → Prop) a w) => hbigK; clear hbigK)
                      obtain ⟨z0, z1, y0, y1⟩ := H2f.out.two
                      have r9 := Lib.hid ((H2f.out.set 0 (.int .i64 0)).set 1 (.slice none 0 0))
                      have r0 := r9.out.cell 0
                      have r1 := r9.out.cell 1
                      simp only [List.set_cons_zero, List.set_cons_succ, List.getElem?_cons_zero, List.getElem?_cons_succ] at r0 r1
                      go_wp2_with (with_reducible refine stop_at ?_)
                      unfold StopAt
                      have rb := (FBf.out.setCell (p := ⟨B, 0, none⟩) (by simp) (.int .i64 0)).setCell (p := ⟨B, 1, none⟩) (by simp) (.slice none 0 0)
                      have rx := (RowAt.other HRF.out hgB 0 (.int .i64 0)).other hgB 1 (.slice none 0 0)
                      refine bodyPost_ret (by exact parser_res rfl rfl r0 r1) rfl ?_
                      exact ParseQ.bad HE.out rx rb
                    | ok Q =>
                      have HT := Lib.hid (lineV_tail HXB.out HLB0.out HL3.out hpv)
                      have HPQ := Lib.hid (fun w' => pairsr_good (s := sx.extract 11 sx.size) hsz11 (by rw [HDT.out]; exact hpv) w')
                      obtain ⟨np, hnp⟩ : ∃ np, np = Q.length := ⟨_, rfl⟩
                      have HPL := Lib.hid hnp.symm
                      have HPN := Lib.hid (show 0 < np ∧ np ≤ 200 by
                        have h1 := prV_ne hpv
                        rw [List.length_drop] at h1
                        have := HSZ.out
                        omega)
                      clear hpv
                      refine (HPQ.out _).mono ?_
                      rintro e w7 ⟨⟨v, rfl, ho⟩, hb⟩
                      rw [← hnp] at ho
                      obtain ⟨gp, cp, rfl, hgp, hgp2⟩ := ho.form (by have := HPN.out; omega)
                      have HO := Lib.hid ho
                      have HNE := Lib.hid (show ∀ v n, w6.ownsRow (R + 1) 5 1 v n ((flat ps).map byteV) → v.ownBlock ≠ some gp from fun v n h e => by
                        have h1 := (h.lt gp e).2
                        have h2 := (ho.lt gp rfl).1
                        omega)
                      replace HBX := Lib.hid (below_step HBX.out zRw hb)
                      have ST7 := Lib.hid (ST.out.ext hb)
                      have HLB7 := Lib.hid (HLB.out.ext hb)
                      obtain ⟨pb, hpb⟩ : ∃ pb, pb = w6.heap.size := ⟨_, rfl⟩
                      rw [← hpb] at HO hgp
                      obtain ⟨A0', c0', hhx, hox⟩ := ST.out
                      have hRpb : R < pb := by rw [hpb]; exact hhx.lt
                      have hox' := HNE.out _ _ hox
                      have hoy := Lib.hid (ownsRow_below hox hb (Nat.le_refl _))
                      have hhy := Lib.hid (hhx.ext hb)
                      clear hb ho HPQ hnp hox hhx HNE ST HLB hpb ST7
                      have HNE := Lib.hid hox'
                      clear hox'
                      have l0 := HLB7.out.cell 0
                      have l1 := HLB7.out.cell 1
                      have l2 := HLB7.out.cell 2
                      have l3 := HLB7.out.cell 3
                      have l4 := HLB7.out.cell 4
                      simp only [List.getElem?_cons_zero, List.getElem?_cons_succ] at l0 l1 l2 l3 l4
                      go_wp2_with fail
                      refine (framer_any ⟨lh, lm, ls, lf, ld⟩ _ HCL.out).mono ?_
                      rintro e w8 ⟨rfl, hb⟩
                      replace HBX := Lib.hid (below_step HBX.out zRw hb)
                      have HO8 := Lib.hid (ownsRow_below HO.out hb (Nat.le_refl _))
                      have HOR8 := Lib.hid (ownsRow_below hoy.out hb (Nat.le_refl _))
                      have HH8 := Lib.hid (hhy.out.ext hb)
                      have HLB8 := Lib.hid (HLB7.out.ext hb)
                      obtain ⟨f1, f2⟩ := frmV_range HCL.out
                      have f3 := dayV_le (⟨lh, lm, ls, lf, ld⟩ : Lab).d
                      have f4 : frmV ⟨lh, lm, ls, lf, ld⟩ < 2592000 := Int.lt_of_lt_of_le f2 f3
                      replace HT := Lib.hid (show lineV ⟨false, rdr, fi, ps⟩ x = tailF ⟨false, rdr, fi, ps⟩ ld (frmV ⟨lh, lm, ls, lf, ld⟩) Q from HT.out)
                      generalize frmV ⟨lh, lm, ls, lf, ld⟩ = fr at *
                      clear hb f2 f3 l0 l1 l2 l3 l4 HO hoy hhy HLB7
                      try simp only [] at HH8 HOR8 HNE
                      obtain ⟨A0, hA0⟩ : ∃ A0, A0 = A0' := ⟨_, rfl⟩
                      obtain ⟨c0, hc0⟩ : ∃ c0, c0 = c0' := ⟨_, rfl⟩
                      rw [← hA0, ← hc0] at HH8 HOR8 HNE
                      clear hA0 hc0
                      have l4 := HLB8.out.cell 4
                      simp only [List.getElem?_cons_zero, List.getElem?_cons_succ] at l4
                      obtain ⟨q0, q1, y0, y1⟩ := HH8.out.two
                      have hne1 : R ≠ g1 := by
                        intro e
                        have h1 := l4
                        rw [← e, HH8.out.cell 4] at h1
                        simp at h1
                      go_wp2_with fail
                      go_region
                      generalize hw9 : World.drew _ = w9
                      have hb9 : Below R w8 w9 := by
                        subst hw9
                        first
                          | exact ((Below.refl _ _).setCell (by simp) _).drew
                          | exact ((Below.refl _ _).drew).setCell (by simp) _
                          | exact (Below.refl _ _).setCell (by simp) _
                      have HH := Lib.hid (show Held w9 R [.int .i64 fr, .slice A0 (2 * ps.length) c0] by subst hw9; exact held_drew (HH8.out.set 0 (.int .i64 fr)))
                      have HO := Lib.hid (show w9.ownsRow pb 5 1 (.slice (some ⟨gp, 0, none⟩) (2 * np) cp) (2 * np) ((flat Q).map byteV) by subst hw9; exact own_drew (own_set HO8.out hRpb 0 (.int .i64 fr)))
                      have HOR := Lib.hid (show w9.ownsRow (R + 1) 5 1 (.slice A0 (2 * ps.length) c0) (2 * ps.length) ((flat ps).map byteV) by subst hw9; exact own_drew (own_set HOR8.out (by omega) 0 (.int .i64 fr)))
                      replace HBX := Lib.hid (HBX.out.trans hb9)
                      clear hw9 hb9 l4 q0 q1 y0 y1 hne1 HH8 HO8 HOR8 HLB8
                      obtain ⟨F0, hF0⟩ : ∃ F0, F0 = fr := ⟨_, rfl⟩
                      have HF0 := Lib.hid hF0
                      have hF : 0 ≤ F0 ∧ F0 ≤ 2592000 := by omega
                      rw [← hF0] at HH
                      have HTF := Lib.hid (HT.out.trans (tailF_eq (show (if false = true then fi else fr) = F0 by rw [if_neg (by simp)]; exact HF0.out.symm)))
                      clear hF0
                      have hp1 := HPN.out
                      obtain ⟨q0, q1, y0, y1⟩ := HH.out.two
                      have e1 : (2 * (ps.length : Int)).tdiv 2 = (ps.length : Int) := by rw [Int.tdiv_eq_ediv_of_nonneg (by omega)]; omega
                      have e2 : (2 * (np : Int)).tdiv 2 = (np : Int) := by rw [Int.tdiv_eq_ediv_of_nonneg (by omega)]; omega
                      by_cases hgap : fr < F0 + (ps.length : Int)
                      · have HE := Lib.hid (HLE.out 1 8 (HTF.out.trans (if_pos (show fr - F0 - (ps.length : Int) < 0 by omega))))
                        go_wp2_with fail
                        clear q0 q1 y0 y1 e1 e2
                        refine (failed_any _ _ _ _).mono ?_
                        rintro e wf ⟨⟨gf, hgf, rfl, hrf⟩, hbf⟩
                        have HBF := Lib.hid (below_step HBX.out zRw hbf)
                        have HRF := Lib.hid hrf
                        have H2f := Lib.hid (H2r.out.below HBF.out hBR)
                        have FBf := Lib.hid (FBr.out.trans (HBF.out.mono (Nat.le_of_lt hBR)))
                        have hgB : gf ≠ B := by have := HBX.out.size; omega
                        clear hbf hrf hgf
                        unfold strm
                        try (rename (∀ (a : Act) (w : World), Code.wp _ (Code.seq _ _) _ a w → (_ : Act → World → Prop) a w) => hbigK; clear hbigK)
                        obtain ⟨z0, z1, y0, y1⟩ := H2f.out.two
                        have r9 := Lib.hid ((H2f.out.set 0 (.int .i64 0)).set 1 (.slice none 0 0))
                        have r0 := r9.out.cell 0
                        have r1 := r9.out.cell 1
                        simp only [List.set_cons_zero, List.set_cons_succ, List.getElem?_cons_zero, List.getElem?_cons_succ] at r0 r1
                        go_wp2_with (with_reducible refine stop_at ?_)
                        unfold StopAt
                        have rb := (FBf.out.setCell (p := ⟨B, 0, none⟩) (by simp) (.int .i64 0)).setCell (p := ⟨B, 1, none⟩) (by simp) (.slice none 0 0)
                        have rx := (RowAt.other HRF.out hgB 0 (.int .i64 0)).other hgB 1 (.slice none 0 0)
                        refine bodyPost_ret (by exact parser_res rfl rfl r0 r1) rfl ?_
                        exact ParseQ.bad HE.out rx rb
                      · obtain ⟨gN, hgN⟩ : ∃ gN : Nat, fr - F0 - (ps.length : Int) = gN := ⟨(fr - F0 - (ps.length : Int)).toNat, by omega⟩
                        have HGN := Lib.hid hgN
                        have HT2 := Lib.hid (HTF.out.trans (if_neg (show ¬ fr - F0 - (ps.length : Int) < 0 by omega)))
                        have hgN3 : gN ≤ 2592000 := by omega
                        have hfr : fr = F0 + (ps.length : Int) + (gN : Int) := by omega
                        clear hgN hgap
                        by_cases hbig : 200000 < (ps.length : Int) + gN + np
                        · have HE := Lib.hid (HLE.out 1 9 (HT2.out.trans (by rw [HGN.out, HPL.out, if_pos (by omega)])))
                          have t3 : 200000 < fr + (np : Int) - F0 := by omega
                          have t5 : ¬ fr < F0 + (ps.length : Int) := by omega
                          clear hfr
                          go_wp2_with fail
                          clear q0 q1 y0 y1 e1 e2
                          refine (failed_any _ _ _ _).mono ?_
                          rintro e wf ⟨⟨gf, hgf, rfl, hrf⟩, hbf⟩
                          have HBF := Lib.hid (below_step HBX.out zRw hbf)
                          have HRF := Lib.hid hrf
                          have H2f := Lib.hid (H2r.out.below HBF.out hBR)
                          have FBf := Lib.hid (FBr.out.trans (HBF.out.mono (Nat.le_of_lt hBR)))
                          have hgB : gf ≠ B := by have := HBX.out.size; omega
                          clear hbf hrf hgf
                          unfold strm
                          try (rename (∀ (a : Act) (w : World), Code.wp _ (Code.seq _ _) _ a w → (_ : Act → World → Prop) a w) => hbigK; clear hbigK)
                          obtain ⟨z0, z1, y0, y1⟩ := H2f.out.two
                          have r9 := Lib.hid ((H2f.out.set 0 (.int .i64 0)).set 1 (.slice none 0 0))
                          have r0 := r9.out.cell 0
                          have r1 := r9.out.cell 1
                          simp only [List.set_cons_zero, List.set_cons_succ, List.getElem?_cons_zero, List.getElem?_cons_succ] at r0 r1
                          go_wp2_with (with_reducible refine stop_at ?_)
                          unfold StopAt
                          have rb := (FBf.out.setCell (p := ⟨B, 0, none⟩) (by simp) (.int .i64 0)).setCell (p := ⟨B, 1, none⟩) (by simp) (.slice none 0 0)
                          have rx := (RowAt.other HRF.out hgB 0 (.int .i64 0)).other hgB 1 (.slice none 0 0)
                          refine bodyPost_ret (by exact parser_res rfl rfl r0 r1) rfl ?_
                          exact ParseQ.bad HE.out rx rb
                        · have HLK := Lib.hid (show lineV ⟨false, rdr, fi, ps⟩ x = .ok ⟨true, ld, F0, ps ++ nuls gN ++ Q⟩ from HT2.out.trans (by rw [HGN.out, HPL.out, if_neg (by omega)]; rfl))
                          have t3 : ¬ 200000 < fr + (np : Int) - F0 := by omega
                          have t4 : fr - (F0 + (ps.length : Int)) = (gN : Int) := by omega
                          have t5 : ¬ fr < F0 + (ps.length : Int) := by omega
                          have hgN2 : gN ≤ 200000 := by omega
                          have hF1 : F0 ≤ fr := by omega
                          have HFR := Lib.hid hfr
                          clear hfr HT2 HTF hbig
                          go_wp2_with fail
                          clear e1 e2 q0 q1 y0 y1 t3 t4 t5
                          go_loopw [141] (fun z wv => ∃ (i : Nat) (A1 : Option Addr) (c1 : Nat), i ≤ gN ∧ z = .int .i64 i ∧ Hid (Held wv R [.int .i64 F0, .slice A1 (2 * ps.length + 2 * i) c1]) ∧ Hid (wv.ownsRow (R + 1) 5 1 (.slice A1 (2 * ps.length + 2 * i) c1) (2 * ps.length + 2 * i) ((flat ps ++ List.replicate (2 * i) 128).map byteV)) ∧ Hid (wv.ownsRow pb 5 1 (.slice (some ⟨gp, 0, none⟩) (2 * np) cp) (2 * np) ((flat Q).map byteV)) ∧ Hid (Below R wk wv) ∧ Hid ((Value.slice A1 (2 * ps.length + 2 * i) c1).ownBlock ≠ some gp)) (fun z _ => gN - (intOf z).toNat)
                          case atStart => exact ⟨0, A0, c0, by omega, rfl, HH, Lib.hid (by simpa using HOR.out), HO, HBX, HNE⟩
                          case round =>
                            obtain ⟨i, A1, c1, hi, rfl, HH, HOR, HO, HBX, HNE⟩ := hrel
                            obtain ⟨q0, q1, y0, y1⟩ := HH.out.two
                            have hbz : R + 1 ≤ wr.heap.size := HH.out.lt
                            by_cases hlt : i < gN
                            · go_wp2_with (at_builtin; go_loud (refine wpList_append_lies _ rfl _ _ 22 rfl (R + 1) 5 i0 (.int .u8 0) 1 1 Tryd.underlying22 HI0.out.1 HI0.out.2.1 HI0.out.2.2.1 HI0.out.2.2.2 rfl (by decide) (.slice A1 (2 * ps.length + 2 * i) c1) (2 * ps.length + 2 * i) ((flat ps ++ List.replicate (2 * i) 128).map byteV) rfl (HOR.out.alloc _) ⟨wr.heap.size, 0, none⟩ 2 2 [.int .u8 128, .int .u8 128] rfl rfl (CellsAt.all (by simp [CellsAt, go_sem])) (by simp [Value.oneCell']) (by omega) (by simp only [maxLen]; omega) (by omega) (by simp; omega) (wr.heap.size + 1) (by simp) ?_))
                              intro g cap w6 ho hgr hat hlt6
                              have hRne : (Value.slice A1 (2 * ps.length + 2 * i) c1).ownBlock ≠ some R := fun e => by have := own_base HOR.out R e; omega
                              have HH6 := Lib.hid (Held.grown (HH.out.alloc (.cells #[.int .u8 128, .int .u8 128] 5)) hgr hRne)
                              have HO6 := Lib.hid (World.ownsRow.kept (HO.out.alloc (.cells #[.int .u8 128, .int .u8 128] 5)) hgr (.inr (Ne.symm HNE.out)))
                              have FB6 := Lib.hid ((HBX.out.alloc (Nat.le_of_lt (HH.out.lt)) (.cells #[.int .u8 128, .int .u8 128] 5)).grown hgr (by simp; omega) (fun k hk => by have := own_base HOR.out k hk; omega))
                              have HNE6 := Lib.hid (show (Value.slice (some ⟨g, 0, none⟩) (2 * ps.length + 2 * (i + 1)) cap).ownBlock ≠ some gp from fun e => by
                                simp [Value.ownBlock] at e
                                rcases hat with h | h
                                · exact HNE.out (by rw [h, e])
                                · have := (HO.out.lt gp rfl).2
                                  omega)
                              have HOR6 := Lib.hid (show w6.ownsRow (R + 1) 5 1 (.slice (some ⟨g, 0, none⟩) (2 * ps.length + 2 * (i + 1)) cap) (2 * ps.length + 2 * (i + 1)) ((flat ps ++ List.replicate (2 * (i + 1)) 128).map byteV) by
                                have e9 : List.map byteV (flat ps ++ List.replicate (2 * (i + 1)) (128 : UInt8)) = List.map byteV (flat ps) ++ (List.replicate (2 * i) (byteV 128) ++ [Value.int .u8 128, Value.int .u8 128]) := by rw [show 2 * (i + 1) = 2 * i + 1 + 1 from by omega, List.replicate_succ', List.replicate_succ']; simp; rfl
                                rw [e9, show 2 * ps.length + 2 * (i + 1) = 2 * ps.length + 2 * i + 2 from by omega]
                                simpa using ho)
                              have hcx : 2 * ps.length + 2 * i + 2 = 2 * ps.length + 2 * (i + 1) := by omega
                              rw [hcx]
                              clear ho hgr hat q0 q1 y0 y1 HH HO HOR HNE HBX hcx
                              obtain ⟨q0, q1, y0, y1⟩ := HH6.out.two
                              go_wp2_with fail
                              go_roundw
                              case rel => exact ⟨i + 1, some ⟨g, 0, none⟩, cap, by omega, by go_num, Lib.hid (HH6.out.set 1 _), Lib.hid (own_set HOR6.out (by omega) 1 _), Lib.hid (own_set HO6.out hRpb 1 _), Lib.hid (FB6.out.setCell (by simp) _), HNE6⟩
                              case measure => simp [intOf]; omega
                            · obtain rfl : i = gN := by omega
                              obtain ⟨A9, c9, e9, r9, _⟩ := row_of_own HO.out
                              cases e9
                              have HN1 := Lib.hid (show ((flat Q).map byteV).length = 2 * np * 1 by rw [List.length_map, flat_len, HPL.out]; omega)
                              have HN2 := Lib.hid (row_add r9)
                              have HN3 := Lib.hid (show ∀ u ∈ (flat Q).map byteV, u.oneCell' = true by
                                intro u hu
                                obtain ⟨x, _, rfl⟩ := List.mem_map.1 hu
                                rfl)
                              have hlt2 : ¬ (i : Int) < (i : Int) := by omega
                              clear r9 hlt
                              go_wp2_with (at_builtin; go_loud (refine wpList_append_lies _ rfl _ _ 22 rfl (R + 1) 5 i0 (.int .u8 0) 1 1 Tryd.underlying22 HI0.out.1 HI0.out.2.1 HI0.out.2.2.1 HI0.out.2.2.2 rfl (by decide) (.slice A1 (2 * ps.length + 2 * i) c1) (2 * ps.length + 2 * i) ((flat ps ++ List.replicate (2 * i) 128).map byteV) rfl HOR.out ⟨gp, 0, none⟩ (2 * np) cp ((flat Q).map byteV) rfl HN1.out HN2.out HN3.out (by omega) (by simp only [maxLen]; omega) (by omega) hbz (wr.heap.size) rfl ?_))
                              intro g cap w6 ho hgr hat hlt6
                              have hRne : (Value.slice A1 (2 * ps.length + 2 * i) c1).ownBlock ≠ some R := fun e => by have := own_base HOR.out R e; omega
                              have HH6 := Lib.hid (Held.grown HH.out hgr hRne)
                              have FB6 := Lib.hid (HBX.out.grown hgr (Nat.le_of_lt (HH.out.lt)) (fun k hk => by have := own_base HOR.out k hk; omega))
                              have ecap : 2 * ps.length + 2 * i + 2 * np = 2 * (ps ++ nuls i ++ Q).length := by rw [List.length_append, List.length_append, HPL.out]; simp [nuls]; omega
                              have HOR6 := Lib.hid (show w6.ownsRow (R + 1) 5 1 (.slice (some ⟨g, 0, none⟩) (2 * (ps ++ nuls i ++ Q).length) cap) (2 * (ps ++ nuls i ++ Q).length) ((flat (ps ++ nuls i ++ Q)).map byteV) by
                                have e2 : (flat (ps ++ nuls i ++ Q)).map byteV = (flat ps ++ List.replicate (2 * i) 128).map byteV ++ (flat Q).map byteV := by
                                  rw [flat_app, flat_app, flat_nuls, List.map_append]
                                rw [← ecap, e2]
                                simpa using ho)
                              rw [ecap]
                              generalize hps2 : (ps ++ nuls i ++ Q) = ps2 at *
                              clear ecap ho hgr hat q0 q1 y0 y1 HH HO HOR HNE HBX hps2
                              obtain ⟨q0, q1, y0, y1⟩ := HH6.out.two
                              have HNX := Lib.hid (HRd.out.next (by omega) HXL.out HNE1.out HLK.out)
                              go_wp2_with fail
                              go_roundw
                              case rel =>
                                (repeat apply Exists.intro)
                                refine ⟨?_, rfl⟩
                                exact ⟨k + 1, ⟨true, ld, F0, ps2⟩, by omega, by go_num, rfl, rfl, Lib.hid ⟨some ⟨g, 0, none⟩, cap, HH6.out.set 1 _, own_set HOR6.out (by omega) 1 _⟩, Lib.hid (G.out.trans (FB6.out.setCell (by simp) _)), by have := HH6.out.lt; simp; omega, HNX⟩
                              case measure => simp [intOf]; omega
                  · by_cases hd : ld = rdr
                    · subst hd
                      have hdd : (ld != ld) = false := by simp
                      go_wp2_with fail
                      clear hdd
                      clear hbw5
                      rw [← hg1]
                      generalize hw6 : World.alloc _ _ = w6
                      have HLB := Lib.hid (show Held w6 g1 [.int .i64 lh, .int .i64 lm, .int .i64 ls, .int .i64 lf, .bool ld] by subst hw6; exact Held.new hg1)
                      replace HBX := Lib.hid (show Below R wk w6 by subst hw6; exact HBX.out.alloc zz5 _)
                      replace ST := Lib.hid (show StAt w6 R (R + 1) ⟨true, ld, fi, ps⟩ by subst hw6; exact ST.out.ext (below_one _ _))
                      have zz6 : R ≤ w6.heap.size := Nat.le_trans zRw HBX.out.size
                      clear hw6 hh0 ho0 hg1 zz5
                      have hsz11 : (sx.extract 11 sx.size).size ≤ 1000 := by simp; omega
                      have HDT := Lib.hid (show (sx.extract 11 sx.size).data.toList = x.drop 11 by rw [Lib.extract_to_end, HSX.out])
                      have HL3 := Lib.hid (show ¬ ((⟨true, ld, fi, ps⟩ : Rd).begun = true ∧ (⟨lh, lm, ls, lf, ld⟩ : Lab).d ≠ (⟨true, ld, fi, ps⟩ : Rd).drop) by simp)
                      cases hpv : prV (x.drop 11) with
                      | error kk =>
                        have HE := Lib.hid (HLE.out (12 + kk) 4 (lineV_pair HXB.out HLB0.out HL3.out hpv))
                        have HKK := Lib.hid (fun w' => pairsr_bad (s := sx.extract 11 sx.size) hsz11 (by rw [HDT.out]; exact hpv) w')
                        have hkk : kk ≤ 100000 := by
                          have := prV_err hpv
                          simp at this
                          have := HSZ.out
                          omega
                        clear hpv
                        refine (HKK.out _).mono ?_
                        rintro e w7 ⟨rfl, hb⟩
                        replace HBX := Lib.hid (below_step HBX.out zRw hb)
                        clear hb HKK
                        go_wp2_with fail
                        refine (failed_any _ _ _ _).mono ?_
                        rintro e wf ⟨⟨gf, hgf, rfl, hrf⟩, hbf⟩
                        have HBF := Lib.hid (below_step HBX.out zRw hbf)
                        have HRF := Lib.hid hrf
                        have H2f := Lib.hid (H2r.out.below HBF.out hBR)
                        have FBf := Lib.hid (FBr.out.trans (HBF.out.mono (Nat.le_of_lt hBR)))
                        have hgB : gf ≠ B := by have := HBX.out.size; omega
                        clear hbf hrf hgf
                        unfold strm
                        try (rename (∀ (a : Act) (w : World), Code.wp _ (Code.seq _ _) _ a w → (_ : Act → World → Prop) a w) => hbigK; clear hbigK)
                        obtain ⟨z0, z1, y0, y1⟩ := H2f.out.two
                        have r9 := Lib.hid ((H2f.out.set 0 (.int .i64 0)).set 1 (.slice none 0 0))
                        have r0 := r9.out.cell 0
                        have r1 := r9.out.cell 1
                        simp only [List.set_cons_zero, List.set_cons_succ, List.getElem?_cons_zero, List.getElem?_cons_succ] at r0 r1
                        go_wp2_with (with_reducible refine stop_at ?_)
                        unfold StopAt
                        have rb := (FBf.out.setCell (p := ⟨B, 0, none⟩) (by simp) (.int .i64 0)).setCell (p := ⟨B, 1, none⟩) (by simp) (.slice none 0 0)
                        have rx := (RowAt.other HRF.out hgB 0 (.int .i64 0)).other hgB 1 (.slice none 0 0)
                        refine bodyPost_ret (by exact parser_res rfl rfl r0 r1) rfl ?_
                        exact ParseQ.bad HE.out rx rb
                      | ok Q =>
                        have HT := Lib.hid (lineV_tail HXB.out HLB0.out HL3.out hpv)
                        have HPQ := Lib.hid (fun w' => pairsr_good (s := sx.extract 11 sx.size) hsz11 (by rw [HDT.out]; exact hpv) w')
                        obtain ⟨np, hnp⟩ : ∃ np, np = Q.length := ⟨_, rfl⟩
                        have HPL := Lib.hid hnp.symm
                        have HPN := Lib.hid (show 0 < np ∧ np ≤ 200 by
                          have h1 := prV_ne hpv
                          rw [List.length_drop] at h1
                          have := HSZ.out
                          omega)
                        clear hpv
                        refine (HPQ.out _).mono ?_
                        rintro e w7 ⟨⟨v, rfl, ho⟩, hb⟩
                        rw [← hnp] at ho
                        obtain ⟨gp, cp, rfl, hgp, hgp2⟩ := ho.form (by have := HPN.out; omega)
                        have HO := Lib.hid ho
                        have HNE := Lib.hid (show ∀ v n, w6.ownsRow (R + 1) 5 1 v n ((flat ps).map byteV) → v.ownBlock ≠ some gp from fun v n h e => by
                          have h1 := (h.lt gp e).2
                          have h2 := (ho.lt gp rfl).1
                          omega)
                        replace HBX := Lib.hid (below_step HBX.out zRw hb)
                        have ST7 := Lib.hid (ST.out.ext hb)
                        have HLB7 := Lib.hid (HLB.out.ext hb)
                        obtain ⟨pb, hpb⟩ : ∃ pb, pb = w6.heap.size := ⟨_, rfl⟩
                        rw [← hpb] at HO hgp
                        obtain ⟨A0', c0', hhx, hox⟩ := ST.out
                        have hRpb : R < pb := by rw [hpb]; exact hhx.lt
                        have hox' := HNE.out _ _ hox
                        have hoy := Lib.hid (ownsRow_below hox hb (Nat.le_refl _))
                        have hhy := Lib.hid (hhx.ext hb)
                        clear hb ho HPQ hnp hox hhx HNE ST HLB hpb ST7
                        have HNE := Lib.hid hox'
                        clear hox'
                        have l0 := HLB7.out.cell 0
                        have l1 := HLB7.out.cell 1
                        have l2 := HLB7.out.cell 2
                        have l3 := HLB7.out.cell 3
                        have l4 := HLB7.out.cell 4
                        simp only [List.getElem?_cons_zero, List.getElem?_cons_succ] at l0 l1 l2 l3 l4
                        go_wp2_with fail
                        refine (framer_any ⟨lh, lm, ls, lf, ld⟩ _ HCL.out).mono ?_
                        rintro e w8 ⟨rfl, hb⟩
                        replace HBX := Lib.hid (below_step HBX.out zRw hb)
                        have HO8 := Lib.hid (ownsRow_below HO.out hb (Nat.le_refl _))
                        have HOR8 := Lib.hid (ownsRow_below hoy.out hb (Nat.le_refl _))
                        have HH8 := Lib.hid (hhy.out.ext hb)
                        have HLB8 := Lib.hid (HLB7.out.ext hb)
                        obtain ⟨f1, f2⟩ := frmV_range HCL.out
                        have f3 := dayV_le (⟨lh, lm, ls, lf, ld⟩ : Lab).d
                        have f4 : frmV ⟨lh, lm, ls, lf, ld⟩ < 2592000 := Int.lt_of_lt_of_le f2 f3
                        replace HT := Lib.hid (show lineV ⟨true, ld, fi, ps⟩ x = tailF ⟨true, ld, fi, ps⟩ ld (frmV ⟨lh, lm, ls, lf, ld⟩) Q from HT.out)
                        generalize frmV ⟨lh, lm, ls, lf, ld⟩ = fr at *
                        clear hb f2 f3 l0 l1 l2 l3 l4 HO hoy hhy HLB7
                        try simp only [] at HH8 HOR8 HNE
                        obtain ⟨A0, hA0⟩ : ∃ A0, A0 = A0' := ⟨_, rfl⟩
                        obtain ⟨c0, hc0⟩ : ∃ c0, c0 = c0' := ⟨_, rfl⟩
                        rw [← hA0, ← hc0] at HH8 HOR8 HNE
                        clear hA0 hc0
                        obtain ⟨F0, hF0⟩ : ∃ F0, F0 = fi := ⟨_, rfl⟩
                        have HF0 := Lib.hid hF0
                        have hF : 0 ≤ F0 ∧ F0 ≤ 2592000 := by omega
                        have HH := Lib.hid (show Held w8 R [.int .i64 F0, .slice A0 (2 * ps.length) c0] by rw [hF0]; exact HH8.out)
                        have HO := HO8
                        have HOR := HOR8
                        have HTF := Lib.hid (HT.out.trans (tailF_eq (show (if true = true then fi else fr) = F0 by rw [if_pos rfl]; exact HF0.out.symm)))
                        clear HH8 HO8 HOR8 HLB8 hF0
                        have hp1 := HPN.out
                        obtain ⟨q0, q1, y0, y1⟩ := HH.out.two
                        have e1 : (2 * (ps.length : Int)).tdiv 2 = (ps.length : Int) := by rw [Int.tdiv_eq_ediv_of_nonneg (by omega)]; omega
                        have e2 : (2 * (np : Int)).tdiv 2 = (np : Int) := by rw [Int.tdiv_eq_ediv_of_nonneg (by omega)]; omega
                        by_cases hgap : fr < F0 + (ps.length : Int)
                        · have HE := Lib.hid (HLE.out 1 8 (HTF.out.trans (if_pos (show fr - F0 - (ps.length : Int) < 0 by omega))))
                          go_wp2_with fail
                          clear q0 q1 y0 y1 e1 e2
                          refine (failed_any _ _ _ _).mono ?_
                          rintro e wf ⟨⟨gf, hgf, rfl, hrf⟩, hbf⟩
                          have HBF := Lib.hid (below_step HBX.out zRw hbf)
                          have HRF := Lib.hid hrf
                          have H2f := Lib.hid (H2r.out.below HBF.out hBR)
                          have FBf := Lib.hid (FBr.out.trans (HBF.out.mono (Nat.le_of_lt hBR)))
                          have hgB : gf ≠ B := by have := HBX.out.size; omega
                          clear hbf hrf hgf
                          unfold strm
                          try (rename (∀ (a : Act) (w : World), Code.wp _ (Code.seq _ _) _ a w → (_ : Act → World → Prop) a w) => hbigK; clear hbigK)
                          obtain ⟨z0, z1, y0, y1⟩ := H2f.out.two
                          have r9 := Lib.hid ((H2f.out.set 0 (.int .i64 0)).set 1 (.slice none 0 0))
                          have r0 := r9.out.cell 0
                          have r1 := r9.out.cell 1
                          simp only [List.set_cons_zero, List.set_cons_succ, List.getElem?_cons_zero, List.getElem?_cons_succ] at r0 r1
                          go_wp2_with (with_reducible refine stop_at ?_)
                          unfold StopAt
                          have rb := (FBf.out.setCell (p := ⟨B, 0, none⟩) (by simp) (.int .i64 0)).setCell (p := ⟨B, 1, none⟩) (by simp) (.slice none 0 0)
                          have rx := (RowAt.other HRF.out hgB 0 (.int .i64 0)).other hgB 1 (.slice none 0 0)
                          refine bodyPost_ret (by exact parser_res rfl rfl r0 r1) rfl ?_
                          exact ParseQ.bad HE.out rx rb
                        · obtain ⟨gN, hgN⟩ : ∃ gN : Nat, fr - F0 - (ps.length : Int) = gN := ⟨(fr - F0 - (ps.length : Int)).toNat, by omega⟩
                          have HGN := Lib.hid hgN
                          have HT2 := Lib.hid (HTF.out.trans (if_neg (show ¬ fr - F0 - (ps.length : Int) < 0 by omega)))
                          have hgN3 : gN ≤ 2592000 := by omega
                          have hfr : fr = F0 + (ps.length : Int) + (gN : Int) := by omega
                          clear hgN hgap
                          by_cases hbig : 200000 < (ps.length : Int) + gN + np
                          · have HE := Lib.hid (HLE.out 1 9 (HT2.out.trans (by rw [HGN.out, HPL.out, if_pos (by omega)])))
                            have t3 : 200000 < fr + (np : Int) - F0 := by omega
                            have t5 : ¬ fr < F0 + (ps.length : Int) := by omega
                            clear hfr
                            go_wp2_with fail
                            clear q0 q1 y0 y1 e1 e2
                            refine (failed_any _ _ _ _).mono ?_
                            rintro e wf ⟨⟨gf, hgf, rfl, hrf⟩, hbf⟩
                            have HBF := Lib.hid (below_step HBX.out zRw hbf)
                            have HRF := Lib.hid hrf
                            have H2f := Lib.hid (H2r.out.below HBF.out hBR)
                            have FBf := Lib.hid (FBr.out.trans (HBF.out.mono (Nat.le_of_lt hBR)))
                            have hgB : gf ≠ B := by have := HBX.out.size; omega
                            clear hbf hrf hgf
                            unfold strm
                            try (rename (∀ (a : Act) (w : World), Code.wp _ (Code.seq _ _) _ a w → (_ : Act → World → Prop) a w) => hbigK; clear hbigK)
                            obtain ⟨z0, z1, y0, y1⟩ := H2f.out.two
                            have r9 := Lib.hid ((H2f.out.set 0 (.int .i64 0)).set 1 (.slice none 0 0))
                            have r0 := r9.out.cell 0
                            have r1 := r9.out.cell 1
                            simp only [List.set_cons_zero, List.set_cons_succ, List.getElem?_cons_zero, List.getElem?_cons_succ] at r0 r1
                            go_wp2_with (with_reducible refine stop_at ?_)
                            unfold StopAt
                            have rb := (FBf.out.setCell (p := ⟨B, 0, none⟩) (by simp) (.int .i64 0)).setCell (p := ⟨B, 1, none⟩) (by simp) (.slice none 0 0)
                            have rx := (RowAt.other HRF.out hgB 0 (.int .i64 0)).other hgB 1 (.slice none 0 0)
                            refine bodyPost_ret (by exact parser_res rfl rfl r0 r1) rfl ?_
                            exact ParseQ.bad HE.out rx rb
                          · have HLK := Lib.hid (show lineV ⟨true, ld, fi, ps⟩ x = .ok ⟨true, ld, F0, ps ++ nuls gN ++ Q⟩ from HT2.out.trans (by rw [HGN.out, HPL.out, if_neg (by omega)]; rfl))
                            have t3 : ¬ 200000 < fr + (np : Int) - F0 := by omega
                            have t4 : fr - (F0 + (ps.length : Int)) = (gN : Int) := by omega
                            have t5 : ¬ fr < F0 + (ps.length : Int) := by omega
                            have hgN2 : gN ≤ 200000 := by omega
                            have hF1 : F0 ≤ fr := by omega
                            have HFR := Lib.hid hfr
                            clear hfr HT2 HTF hbig
                            go_wp2_with fail
                            clear e1 e2 q0 q1 y0 y1 t3 t4 t5
                            go_loopw [141] (fun z wv => ∃ (i : Nat) (A1 : Option Addr) (c1 : Nat), i ≤ gN ∧ z = .int .i64 i ∧ Hid (Held wv R [.int .i64 F0, .slice A1 (2 * ps.length + 2 * i) c1]) ∧ Hid (wv.ownsRow (R + 1) 5 1 (.slice A1 (2 * ps.length + 2 * i) c1) (2 * ps.length + 2 * i) ((flat ps ++ List.replicate (2 * i) 128).map byteV)) ∧ Hid (wv.ownsRow pb 5 1 (.slice (some ⟨gp, 0, none⟩) (2 * np) cp) (2 * np) ((flat Q).map byteV)) ∧ Hid (Below R wk wv) ∧ Hid ((Value.slice A1 (2 * ps.length + 2 * i) c1).ownBlock ≠ some gp)) (fun z _ => gN - (intOf z).toNat)
                            case atStart => exact ⟨0, A0, c0, by omega, rfl, HH, Lib.hid (by simpa using HOR.out), HO, HBX, HNE⟩
                            case round =>
                              obtain ⟨i, A1, c1, hi, rfl, HH, HOR, HO, HBX, HNE⟩ := hrel
                              obtain ⟨q0, q1, y0, y1⟩ := HH.out.two
                              have hbz : R + 1 ≤ wr.heap.size := HH.out.lt
                              by_cases hlt : i < gN
                              · go_wp2_with (at_builtin; go_loud (refine wpList_append_lies _ rfl _ _ 22 rfl (R + 1) 5 i0 (.int .u8 0) 1 1 Tryd.underlying22 HI0.out.1 HI0.out.2.1 HI0.out.2.2.1 HI0.out.2.2.2 rfl (by decide) (.slice A1 (2 * ps.length + 2 * i) c1) (2 * ps.length + 2 * i) ((flat ps ++ List.replicate (2 * i) 128).map byteV) rfl (HOR.out.alloc _) ⟨wr.heap.size, 0, none⟩ 2 2 [.int .u8 128, .int .u8 128] rfl rfl (CellsAt.all (by simp [CellsAt, go_sem])) (by simp [Value.oneCell']) (by omega) (by simp only [maxLen]; omega) (by omega) (by simp; omega) (wr.heap.size + 1) (by simp) ?_))
                                intro g cap w6 ho hgr hat hlt6
                                have hRne : (Value.slice A1 (2 * ps.length + 2 * i) c1).ownBlock ≠ some R := fun e => by have := own_base HOR.out R e; omega
                                have HH6 := Lib.hid (Held.grown (HH.out.alloc (.cells #[.int .u8 128, .int .u8 128] 5)) hgr hRne)
                                have HO6 := Lib.hid (World.ownsRow.kept (HO.out.alloc (.cells #[.int .u8 128, .int .u8 128] 5)) hgr (.inr (Ne.symm HNE.out)))
                                have FB6 := Lib.hid ((HBX.out.alloc (Nat.le_of_lt (HH.out.lt)) (.cells #[.int .u8 128, .int .u8 128] 5)).grown hgr (by simp; omega) (fun k hk => by have := own_base HOR.out k hk; omega))
                                have HNE6 := Lib.hid (show (Value.slice (some ⟨g, 0, none⟩) (2 * ps.length + 2 * (i + 1)) cap).ownBlock ≠ some gp from fun e => by
                                  simp [Value.ownBlock] at e
                                  rcases hat with h | h
                                  · exact HNE.out (by rw [h, e])
                                  · have := (HO.out.lt gp rfl).2
                                    omega)
                                have HOR6 := Lib.hid (show w6.ownsRow (R + 1) 5 1 (.slice (some ⟨g, 0, none⟩) (2 * ps.length + 2 * (i + 1)) cap) (2 * ps.length + 2 * (i + 1)) ((flat ps ++ List.replicate (2 * (i + 1)) 128).map byteV) by
                                  have e9 : List.map byteV (flat ps ++ List.replicate (2 * (i + 1)) (128 : UInt8)) = List.map byteV (flat ps) ++ (List.replicate (2 * i) (byteV 128) ++ [Value.int .u8 128, Value.int .u8 128]) := by rw [show 2 * (i + 1) = 2 * i + 1 + 1 from by omega, List.replicate_succ', List.replicate_succ']; simp; rfl
                                  rw [e9, show 2 * ps.length + 2 * (i + 1) = 2 * ps.length + 2 * i + 2 from by omega]
                                  simpa using ho)
                                have hcx : 2 * ps.length + 2 * i + 2 = 2 * ps.length + 2 * (i + 1) := by omega
                                rw [hcx]
                                clear ho hgr hat q0 q1 y0 y1 HH HO HOR HNE HBX hcx
                                obtain ⟨q0, q1, y0, y1⟩ := HH6.out.two
                                go_wp2_with fail
                                go_roundw
                                case rel => exact ⟨i + 1, some ⟨g, 0, none⟩, cap, by omega, by go_num, Lib.hid (HH6.out.set 1 _), Lib.hid (own_set HOR6.out (by omega) 1 _), Lib.hid (own_set HO6.out hRpb 1 _), Lib.hid (FB6.out.setCell (by simp) _), HNE6⟩
                                case measure => simp [intOf]; omega
                              · obtain rfl : i = gN := by omega
                                obtain ⟨A9, c9, e9, r9, _⟩ := row_of_own HO.out
                                cases e9
                                have HN1 := Lib.hid (show ((flat Q).map byteV).length = 2 * np * 1 by rw [List.length_map, flat_len, HPL.out]; omega)
                                have HN2 := Lib.hid (row_add r9)
                                have HN3 := Lib.hid (show ∀ u ∈ (flat Q).map byteV, u.oneCell' = true by
                                  intro u hu
                                  obtain ⟨x, _, rfl⟩ := List.mem_map.1 hu
                                  rfl)
                                have hlt2 : ¬ (i : Int) < (i : Int) := by omega
                                clear r9 hlt
                                go_wp2_with (at_builtin; go_loud (refine wpList_append_lies _ rfl _ _ 22 rfl (R + 1) 5 i0 (.int .u8 0) 1 1 Tryd.underlying22 HI0.out.1 HI0.out.2.1 HI0.out.2.2.1 HI0.out.2.2.2 rfl (by decide) (.slice A1 (2 * ps.length + 2 * i) c1) (2 * ps.length + 2 * i) ((flat ps ++ List.replicate (2 * i) 128).map byteV) rfl HOR.out ⟨gp, 0, none⟩ (2 * np) cp ((flat Q).map byteV) rfl HN1.out HN2.out HN3.out (by omega) (by simp only [maxLen]; omega) (by omega) hbz (wr.heap.size) rfl ?_))
                                intro g cap w6 ho hgr hat hlt6
                                have hRne : (Value.slice A1 (2 * ps.length + 2 * i) c1).ownBlock ≠ some R := fun e => by have := own_base HOR.out R e; omega
                                have HH6 := Lib.hid (Held.grown HH.out hgr hRne)
                                have FB6 := Lib.hid (HBX.out.grown hgr (Nat.le_of_lt (HH.out.lt)) (fun k hk => by have := own_base HOR.out k hk; omega))
                                have ecap : 2 * ps.length + 2 * i + 2 * np = 2 * (ps ++ nuls i ++ Q).length := by rw [List.length_append, List.length_append, HPL.out]; simp [nuls]; omega
                                have HOR6 := Lib.hid (show w6.ownsRow (R + 1) 5 1 (.slice (some ⟨g, 0, none⟩) (2 * (ps ++ nuls i ++ Q).length) cap) (2 * (ps ++ nuls i ++ Q).length) ((flat (ps ++ nuls i ++ Q)).map byteV) by
                                  have e2 : (flat (ps ++ nuls i ++ Q)).map byteV = (flat ps ++ List.replicate (2 * i) 128).map byteV ++ (flat Q).map byteV := by
                                    rw [flat_app, flat_app, flat_nuls, List.map_append]
                                  rw [← ecap, e2]
                                  simpa using ho)
                                rw [ecap]
                                generalize hps2 : (ps ++ nuls i ++ Q) = ps2 at *
                                clear ecap ho hgr hat q0 q1 y0 y1 HH HO HOR HNE HBX hps2
                                obtain ⟨q0, q1, y0, y1⟩ := HH6.out.two
                                have HNX := Lib.hid (HRd.out.next (by omega) HXL.out HNE1.out HLK.out)
                                go_wp2_with fail
                                go_roundw
                                case rel =>
                                  (repeat apply Exists.intro)
                                  refine ⟨?_, rfl⟩
                                  exact ⟨k + 1, ⟨true, ld, F0, ps2⟩, by omega, by go_num, rfl, rfl, Lib.hid ⟨some ⟨g, 0, none⟩, cap, HH6.out.set 1 _, own_set HOR6.out (by omega) 1 _⟩, Lib.hid (G.out.trans (FB6.out.setCell (by simp) _)), by have := HH6.out.lt; simp; omega, HNX⟩
                                case measure => simp [intOf]; omega
                    · have HE := Lib.hid (HLE.out 1 3 (lineV_type HXB.out HLB0.out ⟨rfl, hd⟩))
                      obtain rfl : ld = !rdr := by cases ld <;> cases rdr <;> simp_all
                      cases rdr
                      all_goals
                        simp only [Bool.not_true, Bool.not_false]
                        go_wp2_with fail
                        rw [← hg1]
                        generalize hw6 : World.alloc _ _ = w6
                        replace HBX := Lib.hid (show Below R wk w6 by subst hw6; exact HBX.out.alloc zz5 _)
                        clear hw6 hh0 ho0 hg1 hbw5 hd
                        refine (failed_any _ _ _ _).mono ?_
                        rintro e wf ⟨⟨gf, hgf, rfl, hrf⟩, hbf⟩
                        have HBF := Lib.hid (below_step HBX.out zRw hbf)
                        have HRF := Lib.hid hrf
                        have H2f := Lib.hid (H2r.out.below HBF.out hBR)
                        have FBf := Lib.hid (FBr.out.trans (HBF.out.mono (Nat.le_of_lt hBR)))
                        have hgB : gf ≠ B := by have := HBX.out.size; omega
                        clear hbf hrf hgf
                        unfold strm
                        try (rename (∀ (a : Act) (w : World), Code.wp _ (Code.seq _ _) _ a w → (_ : Act → World → Prop) a w) => hbigK; clear hbigK)
                        obtain ⟨z0, z1, y0, y1⟩ := H2f.out.two
                        have r9 := Lib.hid ((H2f.out.set 0 (.int .i64 0)).set 1 (.slice none 0 0))
                        have r0 := r9.out.cell 0
                        have r1 := r9.out.cell 1
                        simp only [List.set_cons_zero, List.set_cons_succ, List.getElem?_cons_zero, List.getElem?_cons_succ] at r0 r1
                        go_wp2_with (with_reducible refine stop_at ?_)
                        unfold StopAt
                        have rb := (FBf.out.setCell (p := ⟨B, 0, none⟩) (by simp) (.int .i64 0)).setCell (p := ⟨B, 1, none⟩) (by simp) (.slice none 0 0)
                        have rx := (RowAt.other HRF.out hgB 0 (.int .i64 0)).other hgB 1 (.slice none 0 0)
                        refine bodyPost_ret (by exact parser_res rfl rfl r0 r1) rfl ?_
                        exact ParseQ.bad HE.out rx rb
        · have ek : k = t.length + 1 := by omega
          have hkb : ¬ ((k : Int) < (t.length : Int) + 1) := by omega
          have HFN := Lib.hid (show parseV s.data.toList = .ok (normV fi ps) by rw [HPW.out, HRd.out.done (by omega)]; rfl)
          clear ek hlt hwk
          obtain ⟨A0, cc, hh, ho⟩ := ST.out
          obtain ⟨q0, q1, y0, y1⟩ := hh.two
          have hgd := HRd.out.2.2
          have hfi := hfi0
          have hlen := hlen0
          obtain ⟨A9, c9, e9, r9, hc9, hm9, _⟩ := row_of_own ho
          cases e9
          have HNM := Lib.hid (normr_any fi A0 (2 * ps.length) cc (flat ps) wr r9 (flat_len _).symm hc9 hm9 (by omega) ⟨by omega, by omega⟩)
          rw [prs_flat, fstV_norm hfi.1 (by omega) (by omega)] at HNM
          clear hh ho r9 hc9 hm9
          go_wp2_with fail
          clear q0 q1 y0 y1
          refine HNM.out.mono ?_
          rintro e w5 ⟨⟨A5, c5, rfl, hx5, hc5, hm5⟩, hb⟩
          have H2n := Lib.hid (H2r.out.ext hb)
          have FBn := Lib.hid (FBr.out.trans (hb.mono (by omega)))
          have e2 := normV_2 fi ps
          rw [← e2] at hx5 hc5 ⊢
          generalize normV fi ps = nv at *
          obtain ⟨F5, q5⟩ := nv
          simp only [] at hx5 hc5 ⊢
          have HX5 := Lib.hid hx5
          have HC5 := Lib.hid (And.intro hc5 hm5)
          clear hb hx5 hc5 hm5 HNM hgd e2
          unfold strm
          obtain ⟨z0, z1, y0, y1⟩ := H2n.out.two
          go_wp2_with (with_reducible refine stop_at ?_)
          unfold StopAt
          have r9 := (H2n.out.set 0 (.int .i64 F5)).set 1 (.slice A5 (2 * q5.length) c5)
          have rb := (FBn.out.setCell (p := ⟨B, 0, none⟩) (by simp) (.int .i64 F5)).setCell (p := ⟨B, 1, none⟩) (by simp) (.slice A5 (2 * q5.length) c5)
          have rx := bytes_other (bytes_other HX5.out H2n.out (byte_no _ _ _ _) 0 (.int .i64 F5)) (H2n.out.set 0 (.int .i64 F5)) (byte_no F5 none 0 0) 1 (.slice A5 (2 * q5.length) c5)
          generalize World.setCell (World.setCell _ _ _) _ _ = w9 at *
          have r0 := r9.cell 0
          have r1 := r9.cell 1
          simp only [List.set_cons_zero, List.set_cons_succ, List.getElem?_cons_zero, List.getElem?_cons_succ] at r0 r1
          refine bodyPost_ret (by exact parser_res rfl rfl r0 r1) rfl ?_
          exact ParseQ.good HFN.out rx HC5.out.1 HC5.out.2 rb
    · have tn : (!(sB h0).toList == [83, 67, 67, 32, 49, 46, 48]) = true := by
        rw [Lib.toList_data]
        simp only [Bool.not_eq_true', beq_eq_false_iff_ne, ne_eq]
        exact hh
      have HE := Lib.hid (show parseV s.data.toList = .error (1, 1, 4) by rw [HPS.out, parseW, if_pos hh])
      obtain ⟨wr, hwr⟩ : ∃ wr, wr = w2 := ⟨_, rfl⟩
      obtain ⟨R, hR⟩ : ∃ R, R = w2.heap.size := ⟨_, rfl⟩
      have hBR : B < R := by omega
      have zRw : R ≤ wr.heap.size := by rw [hwr, hR]; exact Nat.le_refl _
      have HBX := Lib.hid (show Below R wr w2 by rw [hwr, hR]; exact Below.refl _ _)
      have H2r := Lib.hid (show Held wr B [.int .i64 0, .slice none 0 0] by rw [hwr]; exact H2.out)
      have FBr := Lib.hid (show Below B w wr by rw [hwr]; exact FB.out)
      clear hwr hR hh
      go_wp2_with fail
      refine (failed_any _ _ _ _).mono ?_
      rintro e wf ⟨⟨gf, hgf, rfl, hrf⟩, hbf⟩
      have HBF := Lib.hid (below_step HBX.out zRw hbf)
      have HRF := Lib.hid hrf
      have H2f := Lib.hid (H2r.out.below HBF.out hBR)
      have FBf := Lib.hid (FBr.out.trans (HBF.out.mono (Nat.le_of_lt hBR)))
      have hgB : gf ≠ B := by have := HBX.out.size; omega
      clear hbf hrf hgf
      unfold strm
      try (rename (∀ (a : Act) (w : World), Code.wp _ (Code.seq _ _) _ a w → (_ : Act → World → Prop) a w) => hbigK; clear hbigK)
      obtain ⟨z0, z1, y0, y1⟩ := H2f.out.two
      have r9 := Lib.hid ((H2f.out.set 0 (.int .i64 0)).set 1 (.slice none 0 0))
      have r0 := r9.out.cell 0
      have r1 := r9.out.cell 1
      simp only [List.set_cons_zero, List.set_cons_succ, List.getElem?_cons_zero, List.getElem?_cons_succ] at r0 r1
      go_wp2_with (with_reducible refine stop_at ?_)
      unfold StopAt
      have rb := (FBf.out.setCell (p := ⟨B, 0, none⟩) (by simp) (.int .i64 0)).setCell (p := ⟨B, 1, none⟩) (by simp) (.slice none 0 0)
      have rx := (RowAt.other HRF.out hgB 0 (.int .i64 0)).other hgB 1 (.slice none 0 0)
      refine bodyPost_ret (by exact parser_res rfl rfl r0 r1) rfl ?_
      exact ParseQ.bad HE.out rx rb
end Go.Proofs.YtbliilemjkjimaaDoor
