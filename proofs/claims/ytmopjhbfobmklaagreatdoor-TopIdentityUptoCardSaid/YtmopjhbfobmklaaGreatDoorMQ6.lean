/-
  The contract of Shows of display. Its conditions are its hypotheses.
-/
import Derived.Test.YtmopjhbfobmklaaGreatDoorMCr
set_option maxRecDepth 100000
set_option maxHeartbeats 40000000
namespace Go.Proofs.YtmopjhbfobmklaaGreatDoor
open Go.RowKit Go.Joins
set_option linter.unusedVariables false
set_option linter.unusedSimpArgs false
theorem infoI64' : (Tryz.prog.info? 2).map (fun i => (i.zero, i.size, i.bytes)) = some (some (.int .i64 0), 1, 8) := by kernel_rfl
theorem infoSh : (Tryz.prog.info? 87).map (fun i => (i.zero, i.size, i.bytes)) = some (some (.agg #[.int .i64 0, .int .i64 0, .slice none 0 0]), 3, 40) := by kernel_rfl
theorem gls_own {w : World} {base : Nat} {v : Value} {L : List Gl} (h : w.ownsRow base 112 6 v L.length (L.flatMap Gl.cs)) : OwnS w base 112 6 (Flat Gl.cs) v L := by
 refine ⟨L.map Gl.cs, Al2.ofFlat (f := Gl.cs) (sz := 6) (fun _ => rfl) L, ?_⟩
 have e : (L.map Gl.cs).flatten = L.flatMap Gl.cs := Al2.flatMap (Al2.ofFlat (f := Gl.cs) (sz := 6) (fun _ => rfl) L)
 rw [e]
 exact h
theorem shwStep_g {P : List Gl → Prop} {S : List Gl} {a b : Int} {out : List Shw} (hS : P S) (h : ∀ x ∈ out, P x.g) : ∀ x ∈ shwStep S a b out, P x.g := by
 intro x hx
 unfold shwStep at hx
 split at hx
 ·exact h x hx
 split at hx
 ·rcases List.mem_append.1 hx with hx | hx
  ·exact h x hx
  rcases List.mem_singleton.1 hx with rfl
  exact hS
 rename_i l hl
 split at hx
 ·rcases List.mem_append.1 hx with hx | hx
  ·exact h x (List.dropLast_subset _ hx)
  rcases List.mem_singleton.1 hx with rfl
  exact h l (List.mem_of_getLast? hl)
 rcases List.mem_append.1 hx with hx | hx
 ·exact h x hx
 rcases List.mem_singleton.1 hx with rfl
 exact hS
theorem shwK_g {P : List Gl → Prop} {f : Int → List Gl} {T : List Int} (hF : ∀ x, P (f x)) : ∀ (k : Nat) (x : Shw), x ∈ shwK f T k → P x.g
 | 0, x, hx => by cases hx
 | k + 1, x, hx => shwStep_g (hF _) (shwK_g hF k) x hx
theorem shwK_gl {f : Int → List Gl} {T : List Int} {k : Nat} {X : List Shw} (hF : ∀ x, (f x).length ≤ 1000000) (hX : X = shwK f T k) : ∀ x ∈ X, x.g.length ≤ 1000000 := by
 rw [hX]
 exact shwK_g (P := fun g => g.length ≤ 1000000) hF k
theorem step_none {S : List Gl} {a b : Int} {X : List Shw} (h : S.length = 0) : shwStep S a b X = X := by
 unfold shwStep
 rw [if_pos h]
theorem step_new {S : List Gl} {a b : Int} (h : S.length ≠ 0) : shwStep S a b [] = [⟨a, b, S⟩] := by
 unfold shwStep
 rw [if_neg h]
 rfl
theorem step_last {S : List Gl} {a b : Int} {Y : List Shw} {l : Shw} (h : S.length ≠ 0) : shwStep S a b (Y ++ [l]) = if l.o = a ∧ l.g = S then Y ++ [⟨l.i, b, l.g⟩] else (Y ++ [l]) ++ [⟨a, b, S⟩] := by
 unfold shwStep
 rw [if_neg h, List.getLast?_append]
 simp
theorem show_look {w : World} {B nX oc h : Nat} {oA : Option Addr} {X : List Shw} {S : List Gl} {sv : Value} (ta tb : Int) (hs : ShI w B (.slice oA nX oc) X) (hn : nX = X.length) (hg : SeqT w 112 6 (Flat Gl.cs) sv S) (hX : ∀ x ∈ X, x.g.length ≤ 1000000) (hS : S.length ≠ 0) (hh : h < w.heap.size) :
  ∃ (og m nl gc : Nat) (gA : Option Addr) (lo : Int) (bA bB bC : Bool), og < w.heap.size ∧ bA = decide (0 ≤ (nX : Int) - 1) ∧ bB = (lo == ta) ∧ (bA = true → oA = some ⟨og, 0, none⟩ ∧ (nX : Int) - 1 = (m : Int) ∧ m < nX) ∧ (bA = true → w.cell? ⟨og, m * 3 + 1, none⟩ = some (.int .i64 lo)) ∧ (bA = true → w.cell? ⟨og, m * 3 + 2, none⟩ = some (.slice gA nl gc)) ∧
   (bA = true → ∀ W, Below w.heap.size w W → Calls Tryz.prog 17 #[.slice gA nl gc, sv] W fun e w' => e = .returned (.bool bC) ∧ Below W.heap.size W w') ∧
   (bA = true → bB = true → bC = true → B ≤ og ∧ (∃ cur, w.heap[og]? = some (.cells cur 87 (0, 0))) ∧ ∃ Y l, X = Y ++ [l] ∧ m = Y.length ∧ shwStep S ta tb X = Y ++ [⟨l.i, tb, l.g⟩]) ∧
   (¬ (bA = true ∧ bB = true ∧ bC = true) → shwStep S ta tb X = X ++ [⟨ta, tb, S⟩]) := by
 rcases List.eq_nil_or_concat X with hX0 | ⟨Y, l, hX0⟩
 ·subst hX0
  obtain rfl : nX = 0 := hn
  exact ⟨h, 0, 0, 0, none, 0, false, ((0 : Int) == ta), false, hh, by decide, rfl, fun h => (by cases h), fun h => (by cases h), fun h => (by cases h), fun h => (by cases h), fun h => (by cases h), fun _ => step_new hS⟩
 rw [List.concat_eq_append] at hX0
 subst hX0
 obtain ⟨og, oc', gv, hov, hob, hog, hcur, l0, l1, l2, hgv⟩ := ShI.last hs
 injection hov with q1 q2 q3
 have k2 := hgv
 unfold SeqT at k2
 obtain ⟨gA, gc, rfl, _⟩ := k2
 refine ⟨og, Y.length, l.g.length, gc, gA, l.o, true, (l.o == ta), decide (l.g = S), hog, (decide_eq_true (by omega)).symm, rfl, fun _ => ⟨q1, by omega, by omega⟩, fun _ => l1, fun _ => l2, fun _ W hb => same_any _ _ l.g S W (SeqT.keep (S := IsGl) hgv rfl (KeepS.ext hb) (fun _ _ h => h)).at (SeqT.keep (S := IsGl) hg rfl (KeepS.ext hb) (fun _ _ h => h)).at (hX l (by simp)), fun _ h1 h2 => ⟨hob, hcur, Y, l, rfl, rfl, ?_⟩, fun h1 => ?_⟩
 ·rw [step_last hS, if_pos ⟨eq_of_beq h1, of_decide_eq_true h2⟩]
 rw [step_last hS, if_neg (fun h2 => h1 ⟨rfl, beq_iff_eq.2 h2.1, decide_eq_true h2.2⟩)]
def PhiSwY (D g N j n nR nK c c1 c2 tc nT nS : Nat) (A A1 A2 : Option Addr) (d : Dc) (S : List Gl) (ta tb : Int) : Nat → Value → Prop
 | 44, v => v = .slice (some ⟨g, 0, none⟩) nT tc
 | 45, v => v = .int .i64 ((j : Int) + 1)
 | 46, v => v = .int .i64 (j : Int)
 | 47, v => v = .pointer (some ⟨g, j, none⟩)
 | 48, v => v = .int .i64 ta
 | 49, v => v = .slice (some ⟨g, 0, none⟩) nT tc
 | 50, v => v = .int .i64 ((j : Int) + 1)
 | 51, v => v = .pointer (some ⟨g, j + 1, none⟩)
 | 52, v => v = .int .i64 tb
 | 53, v => v = .agg #[.int .i64 ta, .int .i64 tb]
 | 54, v => v = .agg #[.string (sB d.title), .string (sB d.lang), .int .u8 d.rate, .bool d.drop, .int .i64 d.last, .slice A1 nR c1, .slice A n c, .slice A2 nK c2]
 | 55, v => v = .slice (some ⟨g, 0, none⟩) nT tc
 | 56, v => v = .int .i64 ((j : Int) + 1)
 | 57, v => v = .int .i64 (j : Int)
 | 58, v => v = .pointer (some ⟨g, j, none⟩)
 | 59, v => v = .int .i64 ta
 | _, _ => True
def PhiSw (D g N j n nR nK c c1 c2 tc nT nS : Nat) (A A1 A2 : Option Addr) (d : Dc) (S : List Gl) (ta tb : Int) (sl : Nat) (v : Value) (w : World) : Prop := PhiSwY D g N j n nR nK c c1 c2 tc nT nS A A1 A2 d S ta tb sl v ∧ (sl = 10 → (fun v w => ∃ h, v = Value.pointer (some ⟨h, 0, none⟩) ∧ N ≤ h ∧ HeldT w h 87 [.int .i64 0, .int .i64 0, .slice none 0 0]) v w) ∧ (sl = 60 → (fun v w => ∃ A c, v = Value.slice A nS c ∧ SeqT w 112 6 (Flat Gl.cs) (.slice A nS c) S) v w) ∧ (sl = 61 → (fun v w => ∃ A c, v = Value.agg #[.int .i64 ta, .int .i64 tb, .slice A nS c] ∧ SeqT w 112 6 (Flat Gl.cs) (.slice A nS c) S) v w)
theorem PhiSw.ext (D g N j n nR nK c c1 c2 tc nT nS : Nat) (A A1 A2 : Option Addr) (d : Dc) (S : List Gl) (ta tb : Int) {w w' : World} (hb : Below w.heap.size w w') : ∀ sl v, PhiSw D g N j n nR nK c c1 c2 tc nT nS A A1 A2 d S ta tb sl v w → PhiSw D g N j n nR nK c c1 c2 tc nT nS A A1 A2 d S ta tb sl v w' := fun sl v h => ⟨h.1, fun e => (fun q hb => let ⟨h1, h2, h3, h4⟩ := q; ⟨h1, h2, h3, h4.ext hb⟩) (h.2.1 e) hb, fun e => (fun q hb => let ⟨A, c, h1, h2⟩ := q; ⟨A, c, h1, SeqT.keep (S := IsGl) h2 rfl (KeepS.ext hb) (fun _ _ h => h)⟩) (h.2.2.1 e) hb, fun e => (fun q hb => let ⟨A, c, h1, h2⟩ := q; ⟨A, c, h1, SeqT.keep (S := IsGl) h2 rfl (KeepS.ext hb) (fun _ _ h => h)⟩) (h.2.2.2 e) hb⟩
def PhiSvY (og h10 m nX oc nl gc nS r61 : Nat) (oA gA R61 : Option Addr) (lo ta kk : Int) (bA bB bC : Bool) : Nat → Value → Prop
 | 75, v => v = .int .i64 kk
 | 76, v => v = .bool (bA)
 | 77, v => v = .bool (bA)
 | 78, v => (bA = true → v = .slice oA nX oc) ∧ (¬ (bA = true) → v = undef)
 | 79, v => (bA = true → v = .int .i64 kk) ∧ (¬ (bA = true) → v = undef)
 | 80, v => (bA = true → v = .pointer (some ⟨og, m * 3, none⟩)) ∧ (¬ (bA = true) → v = undef)
 | 81, v => (bA = true → v = .pointer (some ⟨og, m * 3, none⟩)) ∧ (¬ (bA = true) → v = undef)
 | 82, v => (bA = true → v = .pointer (some ⟨og, m * 3 + 1, none⟩)) ∧ (¬ (bA = true) → v = undef)
 | 83, v => (bA = true → v = .int .i64 lo) ∧ (¬ (bA = true) → v = undef)
 | 84, v => (bA = true → v = .pointer (some ⟨h10, 0, none⟩)) ∧ (¬ (bA = true) → v = undef)
 | 85, v => (bA = true → v = .pointer (some ⟨h10, 0, none⟩)) ∧ (¬ (bA = true) → v = undef)
 | 86, v => (bA = true → v = .int .i64 ta) ∧ (¬ (bA = true) → v = undef)
 | 87, v => (bA = true → v = .bool (bB)) ∧ (¬ (bA = true) → v = undef)
 | 88, v => v = .bool (bA && bB)
 | 89, v => v = .bool (bA && bB)
 | 90, v => ((bA && bB) = true → v = .slice oA nX oc) ∧ (¬ ((bA && bB) = true) → v = undef)
 | 91, v => ((bA && bB) = true → v = .int .i64 kk) ∧ (¬ ((bA && bB) = true) → v = undef)
 | 92, v => ((bA && bB) = true → v = .pointer (some ⟨og, m * 3, none⟩)) ∧ (¬ ((bA && bB) = true) → v = undef)
 | 93, v => ((bA && bB) = true → v = .pointer (some ⟨og, m * 3 + 2, none⟩)) ∧ (¬ ((bA && bB) = true) → v = undef)
 | 94, v => ((bA && bB) = true → v = .slice gA nl gc) ∧ (¬ ((bA && bB) = true) → v = undef)
 | 95, v => ((bA && bB) = true → v = .pointer (some ⟨h10, 2, none⟩)) ∧ (¬ ((bA && bB) = true) → v = undef)
 | 96, v => ((bA && bB) = true → v = .slice R61 nS r61) ∧ (¬ ((bA && bB) = true) → v = undef)
 | 97, v => ((bA && bB) = true → v = .bool bC) ∧ (¬ ((bA && bB) = true) → v = undef)
 | 98, v => v = .bool ((bA && bB) && bC)
 | 74, v => v = .bool ((bA && bB) && bC)
 | _, _ => True
def PhiSv (og h10 m nX oc nl gc nS r61 : Nat) (oA gA R61 : Option Addr) (lo ta kk : Int) (bA bB bC : Bool) (sl : Nat) (v : Value) (w : World) : Prop := PhiSvY og h10 m nX oc nl gc nS r61 oA gA R61 lo ta kk bA bB bC sl v ∧ True
theorem PhiSv.ext (og h10 m nX oc nl gc nS r61 : Nat) (oA gA R61 : Option Addr) (lo ta kk : Int) (bA bB bC : Bool) {w w' : World} (hb : Below w.heap.size w w') : ∀ sl v, PhiSv og h10 m nX oc nl gc nS r61 oA gA R61 lo ta kk bA bB bC sl v w → PhiSv og h10 m nX oc nl gc nS r61 oA gA R61 lo ta kk bA bB bC sl v w' := fun sl v h => ⟨h.1, h.2⟩
theorem shows_any (d : Dc) (rv ev cv : Value) (w : World) (h : DocAt w d rv ev cv) (ho : DcOk d) (h0 : dcE d = 0) (hl : d.evs.length ≤ 1000) (hw : Wt w) :
  Calls Tryz.prog 24 #[d.v rv ev cv] w fun e w' => (∃ v, e = .returned (.tuple #[v, .int .i64 0]) ∧ ShI w' w.heap.size v (shwV d.regs d.evs)) ∧ Below w.heap.size w w' := by
 obtain ⟨i0, hi, hz0, hz1, hz2⟩ := info_parts infoI64'
 have HI0 := ι (And.intro hi (And.intro hz0 (And.intro hz1 hz2)))
 obtain ⟨i1, hi, hz0, hz1, hz2⟩ := info_parts infoSh
 have HI1 := ι (And.intro hi (And.intro hz0 (And.intro hz1 hz2)))
 clear hi hz0 hz1 hz2
 obtain ⟨A, c, rfl⟩ := h.evs.form
 obtain ⟨A1, c1, rfl⟩ := h.regs.form
 obtain ⟨A2, c2, rfl⟩ := h.cms.form
 have HCK := ι (fun W (hb : Below w.heap.size w W) => dcheck_any d _ _ _ W (h.ext hb) ho (hw.on hb))
 have HSC := ι (fun f W (hb : Below w.heap.size w W) => screen_any d _ _ _ f W (h.ext hb) ho h0 (hw.on hb))
 have HE := ι h.evs
 rw [h0] at HCK
 unfold PlcP at HSC
 obtain ⟨n, hn⟩ : ∃ n, n = d.evs.length := ⟨_, rfl⟩
 rw [← hn] at HE HCK HSC hl ⊢
 generalize d.regs.length = nR at *
 generalize d.cms.length = nK at *
 have hdv : d.v (.slice A1 nR c1) (.slice A n c) (.slice A2 nK c2) = .agg #[.string (sB d.title), .string (sB d.lang), .int .u8 d.rate, .bool d.drop, .int .i64 d.last, .slice A1 nR c1, .slice A n c, .slice A2 nK c2] := rfl
 rw [hdv] at HCK HSC ⊢
 have HN := ι hn
 clear h ho hw hdv h0 hn
 obtain ⟨F, hF⟩ : ∃ F, F = scrV d.regs d.evs := ⟨_, rfl⟩
 rw [← hF] at HSC
 have HF := ι hF
 have HFL := ι (show ∀ f, (F f).length ≤ 1000000 from fun f => by rw [hF]; exact scrV_len2 _ _ _)
 clear hF
 obtain ⟨T0, hT0⟩ : ∃ T, T = tmsE d.evs := ⟨_, rfl⟩
 have HT0 := ι hT0
 have hTl : T0.length = 2 * n := by rw [hT0, tmsE_len, HN.out]
 clear hT0
 obtain ⟨D, hD⟩ : ∃ D, D = w.heap.size := ⟨_, rfl⟩
 go_enter Tryz.func24, Tryz.ntmps24
 go_wp2_with fail
 rw [← hD]
 generalize hw1 : World.alloc w _ = w1
 have F1 := ι (show Held w1 D (d.cs (.slice A1 nR c1) (.slice A n c) (.slice A2 nK c2)) by subst hw1; exact Held.new hD)
 have B1 := ι (show Below w.heap.size w w1 by subst hw1; exact Below.more' _ _)
 have HD := ι hD
 clear hw1 hD
 refine (HCK.out w1 B1.out).mono ?_
 rintro e w2 ⟨rfl, hb⟩
 have F2 := ι (F1.out.ext hb)
 have B2 := ι (B1.out.trans (hb.mono B1.out.size))
 have hD2 : D < w2.heap.size := F2.out.lt
 clear hb F1 B1 HCK
 have q := F2.out.cell
 unfold Dc.cs at q
 go_wp2_with fail
 clear q
 have hN2 : w.heap.size ≤ w2.heap.size := B2.out.size
 go_loopw [5, 20] (fun tv kv wr => ∃ (k : Nat) (uv : Value), uv = tv ∧ kv = .int .i64 k ∧ k ≤ n ∧ Hid (wr.ownsRow w2.heap.size 2 1 uv (tmsE (d.evs.take k)).length ((tmsE (d.evs.take k)).map (.int .i64))) ∧ Hid (Below w2.heap.size w2 wr)) (fun _ kv _ => n - (intOf kv).toNat)
 case atStart => exact ⟨0, _, rfl, rfl, Nat.zero_le _, ι (World.ownsRow_nil _ _ _ _), ι (Below.refl _ _)⟩
 case round =>
 obtain ⟨k, uv, rfl, rfl, hk, OW, BR⟩ := hrel
 have BW := ι (B2.out.trans (BR.out.mono hN2))
 by_cases hlt : k < n
 ·have hlt2 : (k : Int) < (n : Int) := by omega
  obtain ⟨x, hx⟩ : ∃ x, d.evs[k]? = some x := ⟨_, List.getElem?_eq_getElem (by have := HN.out; omega)⟩
  have HST := ι (tmsE_step hx)
  obtain ⟨b, o, r, rfl, ⟨q0, q1, q2, q3, q4, q5, q6⟩, hrr⟩ := EvsAt.get (SeqAt.ext HE.out EvC.stays BW.out) hx
  obtain ⟨rA, rc, rfl⟩ := hrr.form
  have hbr : b < wr.heap.size := World.block_lt_of_cell? wr _ q0
  have hml : (tmsE (d.evs.take k)).length ≤ 2000 := by rw [tmsE_len, List.length_take]; omega
  clear hx hrr
  have hs1 : w2.heap.size ≤ wr.heap.size := BR.out.size
  generalize tmsE (d.evs.take k) = M at *
  go_wp2_with (at_builtin; go_loud (refine wpList_append_own _ rfl _ _ 46 rfl w2.heap.size 2 i0 (.int .i64 0) 1 8 Tryz.underlying46 HI0.out.1 HI0.out.2.1 HI0.out.2.2.1 HI0.out.2.2.2 rfl (by decide) _ M.length _ rfl (own_ext (own_ext OW.out (Below.more' _ _)) (Below.more' _ _)) ⟨wr.heap.size + 1, 0, none⟩ 2 2 [.int .i64 x.i, .int .i64 x.o] rfl rfl (CellsAt.all (by simp [CellsAt, go_sem])) (by simp [Value.oneCell']) (by simp only [maxLen]; omega) (by omega) (by simp; omega) ?_))
  intro v4 w4 ho4 hgr4 _
  have HO4 := ι (show w4.ownsRow w2.heap.size 2 1 v4 (tmsE (d.evs.take (k + 1))).length ((tmsE (d.evs.take (k + 1))).map (.int .i64)) by rw [HST.out, List.length_append, List.map_append]; exact ho4)
  have BR4 := ι (show Below w2.heap.size w2 w4 from ((BR.out.alloc hs1 _).alloc (by simp; omega) _).grown hgr4 (by simp; omega) (own_base OW.out))
  clear ho4 hgr4 OW BR q0 q1 q2 q3 q4 q5 q6
  go_wp2_with fail
  go_roundw
  case rel => exact ⟨k + 1, _, rfl, by go_num, by omega, HO4, BR4⟩
  case measure => simp [intOf]; omega
 obtain rfl : n = k := by omega
 have HO2 := ι (show wr.ownsRow w2.heap.size 2 1 uv T0.length (T0.map (.int .i64)) by
  have := OW.out
  rw [HN.out, List.take_length, ← HT0.out] at this
  exact this)
 clear hlt OW
 go_wp2_with fail
 refine (sortI_any w2.heap.size _ T0 wr HO2.out BR.out.size (by omega)).mono ?_
 rintro e w3 ⟨rfl, ho, hb⟩
 have HO3 := ι (show w3.ownsRow w2.heap.size 2 1 _ (sortI T0).length ((sortI T0).map (.int .i64)) by simpa using ho)
 have B3 := ι (BR.out.trans hb)
 clear ho hb HO2 BR BW
 go_wp2_with fail
 refine (compI_any w2.heap.size _ (sortI T0) w3 HO3.out B3.out.size (by simp; omega)).mono ?_
 rintro e w4 ⟨⟨tv, rfl, ho⟩, hb⟩
 have B4 := ι (B3.out.trans hb)
 obtain ⟨T, hT⟩ : ∃ T, T = Lib.compact (sortI T0) := ⟨_, rfl⟩
 have hTl2 : T.length ≤ 2000 := by
  have := Lib.compact_length_le (sortI T0)
  rw [hT]
  simp at this
  omega
 rw [← hT] at ho
 have HT := ι (show T = tmsS d.evs by rw [hT, HT0.out]; rfl)
 have HO4 := ι ho
 clear hb HO3 B3 ho hT
 obtain ⟨TA, tc, rfl⟩ : ∃ A c, tv = .slice A T.length c := by
  obtain ⟨A', c', e', _⟩ := row_of_ownK HO4.out
  exact ⟨A', c', e'⟩
 have hN4 : w2.heap.size ≤ w4.heap.size := B4.out.size
 have BW4 := ι (B2.out.trans (B4.out.mono hN2))
 have F4 := ι (F2.out.below B4.out hD2)
 have hD4 : D < w4.heap.size := by omega
 clear B4 F2
 go_wp2_with fail
 go_loopw [8, 9] (fun ov iv wr2 => ∃ (j : Nat) (uv : Value), uv = ov ∧ iv = .int .i64 ((j : Int) + 1) ∧ j ≤ T.length - 1 ∧ Hid (ShI wr2 w4.heap.size uv (shwK F T j)) ∧ Hid (Below w4.heap.size w4 wr2)) (fun _ iv _ => T.length - (intOf iv).toNat)
 case atStart => exact ⟨0, _, rfl, rfl, Nat.zero_le _, ι (OwnS.nil _ _ _ _ _), ι (Below.refl _ _)⟩
 case round =>
 obtain ⟨j, uv, rfl, rfl, hj, HS, BR⟩ := hrel
 have BX := ι (BW4.out.trans (BR.out.mono (by omega)))
 by_cases hlt : j + 1 < T.length
 ·have hlt2 : (j : Int) + 1 < (T.length : Int) := by omega
  obtain ⟨g, tc', hTA, hgB, hg4, htc, htm, hTg⟩ := ints_get HO4.out (by omega)
  injection hTA with hTA _ hTc
  subst hTA; subst hTc
  have HTG := ι hTg
  clear hTg
  obtain ⟨X, hX⟩ : ∃ X, X = shwK F T j := ⟨_, rfl⟩
  have hXl : X.length ≤ 2000 := by have := shwK_len F T j; rw [hX]; omega
  rw [← hX] at HS
  obtain ⟨oA, oc, ho, _⟩ := OwnS.seq HS.out (by decide)
  obtain ⟨nX, hnX⟩ : ∃ n, n = X.length := ⟨_, rfl⟩
  rw [← hnX] at ho hXl
  subst ho
  have HXV := ι hX
  have HNX := ι hnX
  clear hX hnX
  go_wp2_with fail
  obtain ⟨ta, hta⟩ : ∃ t, t = T.getD j 0 := ⟨_, rfl⟩
  obtain ⟨tb, htb⟩ : ∃ t, t = T.getD (j + 1) 0 := ⟨_, rfl⟩
  obtain ⟨S, hS⟩ : ∃ S, S = F ta := ⟨_, rfl⟩
  obtain ⟨nS, hnS⟩ : ∃ n, n = S.length := ⟨_, rfl⟩
  have hN4r : w4.heap.size ≤ wr.heap.size := BR.out.size
  obtain ⟨N, hN⟩ : ∃ N, N = wr.heap.size := ⟨_, rfl⟩
  have hDN : D < N := by omega
  have hgN : g < N := by omega
  have hwj : IntKind.i64.wrap (j : Int) = (j : Int) := by rw [IntKind.wrap_i64]; omega
  have hj1 : j < T.length := by omega
  have hj2 : 0 ≤ (j : Int) + 1 ∧ (j : Int) + 1 < (T.length : Int) := by omega
  have HSZ := ι (show ∀ w', Below N wr w' → N ≤ w'.heap.size from fun w' h => by have := h.size; omega)
  have HBW := ι (show ∀ w', Below N wr w' → Below w.heap.size w w' from fun w' h => BX.out.trans (h.mono (by have := BX.out.size; omega)))
  have HS2 := ι (show ∀ W, Below w.heap.size w W → Calls Tryz.prog 41 #[.agg #[.string (sB d.title), .string (sB d.lang), .int .u8 d.rate, .bool d.drop, .int .i64 d.last, .slice A1 nR c1, .slice A n c, .slice A2 nK c2], .int .i64 ta] W fun e w' => (∃ v, e = .returned v ∧ ∃ A c, v = Value.slice A nS c ∧ SeqT w' 112 6 (Flat Gl.cs) (.slice A nS c) S) ∧ Below W.heap.size W w' from fun W hb => (HSC.out ta W hb).mono (by
   rintro e w9 ⟨⟨v, rfl, ho⟩, hb⟩
   rw [← hS] at ho
   have k := (gls_own ho).typed (by decide)
   have k2 := k
   unfold SeqT at k2
   obtain ⟨A', c', rfl, _⟩ := k2
   rw [hnS]
   exact ⟨⟨_, rfl, A', c', rfl, k⟩, hb⟩))
  have FD : Held wr D (d.cs (.slice A1 nR c1) (.slice A n c) (.slice A2 nK c2)) := F4.out.below BR.out hD4
  have f0 : wr.cell? ⟨D, 0, none⟩ = some (.string (sB d.title)) := FD.cell 0
  have f1 : wr.cell? ⟨D, 1, none⟩ = some (.string (sB d.lang)) := FD.cell 1
  have f2 : wr.cell? ⟨D, 2, none⟩ = some (.int .u8 d.rate) := FD.cell 2
  have f3 : wr.cell? ⟨D, 3, none⟩ = some (.bool d.drop) := FD.cell 3
  have f4 : wr.cell? ⟨D, 4, none⟩ = some (.int .i64 d.last) := FD.cell 4
  have f5 : wr.cell? ⟨D, 5, none⟩ = some (.slice A1 nR c1) := FD.cell 5
  have f6 : wr.cell? ⟨D, 6, none⟩ = some (.slice A n c) := FD.cell 6
  have f7 : wr.cell? ⟨D, 7, none⟩ = some (.slice A2 nK c2) := FD.cell 7
  have tg0 : wr.cell? ⟨g, j, none⟩ = some (.int .i64 ta) := by rw [hta]; exact (BR.out.cell (p := ⟨g, j, none⟩) hg4).trans (HTG.out j (by omega))
  have tg1 : wr.cell? ⟨g, j + 1, none⟩ = some (.int .i64 tb) := by rw [htb]; exact (BR.out.cell (p := ⟨g, j + 1, none⟩) hg4).trans (HTG.out (j + 1) hlt)
  have HTA := ι hta
  have HTB := ι htb
  have HSV := ι hS
  have HNS := ι hnS
  have hN4r2 : w4.heap.size ≤ N := by omega
  have HN := ι hN
  clear hta htb hS hnS hN FD
  refine wp_region_spec_tail 19 (by kernel_rfl) (fun w' => Below N wr w') (PhiSw D g N j n nR nK c c1 c2 tc T.length nS A A1 A2 d S ta tb) 108 rfl (by kernel_rfl) (by kernel_rfl) (by kernel_rfl) (by kernel_rfl) (by kernel_rfl) (Below.refl _ _).drew ?hops ?hend
  case hops =>
   refine ⟨?o0, ?o1, ?o2, ?o3, ?o4, ?o5, ?o6, ?o7, ?o8, ?o9, ?o10, ?o11, ?o12, ?o13, ?o14, ?o15, ?o16, ?o17, ?o18, trivial⟩
   case o0 =>
    intro ev w8 hI δ φ
    have a5 : ev 5 = .slice (some ⟨g, 0, none⟩) T.length tc := φ 5 (by kernel_rfl)
    clear δ φ
    try dsimp only
    simp [OpRuns, execOp, evalOf, a5, go_sem]
    exact ⟨hI, rfl, ν rfl, ν rfl, ν rfl⟩
   case o1 =>
    intro ev w8 hI δ φ
    have a9 : ev 9 = .int .i64 ((j : Int) + 1) := φ 9 (by kernel_rfl)
    clear δ φ
    try dsimp only
    simp [OpRuns, execOp, evalOf, a9, go_sem]
    exact ⟨hI, rfl, ν rfl, ν rfl, ν rfl⟩
   case o2 =>
    intro ev w8 hI δ φ
    have a45 : ev 45 = .int .i64 ((j : Int) + 1) := (δ 1 45 (by kernel_rfl) rfl).1
    clear δ φ
    try dsimp only
    simp [OpRuns, execOp, evalOf, a45, hwj, go_sem]
    exact ⟨hI, rfl, ν rfl, ν rfl, ν rfl⟩
   case o3 =>
    intro ev w8 hI δ φ
    have a44 : ev 44 = .slice (some ⟨g, 0, none⟩) T.length tc := (δ 0 44 (by kernel_rfl) rfl).1
    have a46 : ev 46 = .int .i64 (j : Int) := (δ 2 46 (by kernel_rfl) rfl).1
    clear δ φ
    try dsimp only
    simp [OpRuns, execOp, evalOf, a44, a46, hj1, go_sem]
    exact ⟨hI, rfl, ν rfl, ν rfl, ν rfl⟩
   case o4 =>
    intro ev w8 hI δ φ
    have a47 : ev 47 = .pointer (some ⟨g, j, none⟩) := (δ 3 47 (by kernel_rfl) rfl).1
    have y0 : w8.cell? ⟨g, j, none⟩ = some (.int .i64 ta) := (hI.cell (p := ⟨g, j, none⟩) hgN).trans tg0
    clear δ φ
    try dsimp only
    simp [OpRuns, execOp, evalOf, a47, y0, go_sem]
    exact ⟨hI, rfl, ν rfl, ν rfl, ν rfl⟩
   case o5 =>
    intro ev w8 hI δ φ
    have a5 : ev 5 = .slice (some ⟨g, 0, none⟩) T.length tc := φ 5 (by kernel_rfl)
    clear δ φ
    try dsimp only
    simp [OpRuns, execOp, evalOf, a5, go_sem]
    exact ⟨hI, rfl, ν rfl, ν rfl, ν rfl⟩
   case o6 =>
    intro ev w8 hI δ φ
    have a9 : ev 9 = .int .i64 ((j : Int) + 1) := φ 9 (by kernel_rfl)
    clear δ φ
    try dsimp only
    simp [OpRuns, execOp, evalOf, a9, go_sem]
    exact ⟨hI, rfl, ν rfl, ν rfl, ν rfl⟩
   case o7 =>
    intro ev w8 hI δ φ
    have a49 : ev 49 = .slice (some ⟨g, 0, none⟩) T.length tc := (δ 5 49 (by kernel_rfl) rfl).1
    have a50 : ev 50 = .int .i64 ((j : Int) + 1) := (δ 6 50 (by kernel_rfl) rfl).1
    clear δ φ
    try dsimp only
    simp [OpRuns, execOp, evalOf, a49, a50, hj2, go_sem]
    exact ⟨hI, rfl, ν rfl, ν rfl, ν rfl⟩
   case o8 =>
    intro ev w8 hI δ φ
    have a51 : ev 51 = .pointer (some ⟨g, j + 1, none⟩) := (δ 7 51 (by kernel_rfl) rfl).1
    have y0 : w8.cell? ⟨g, j + 1, none⟩ = some (.int .i64 tb) := (hI.cell (p := ⟨g, j + 1, none⟩) hgN).trans tg1
    clear δ φ
    try dsimp only
    simp [OpRuns, execOp, evalOf, a51, y0, go_sem]
    exact ⟨hI, rfl, ν rfl, ν rfl, ν rfl⟩
   case o9 =>
    intro ev w8 hI δ φ
    have a48 : ev 48 = .int .i64 ta := (δ 4 48 (by kernel_rfl) rfl).1
    have a52 : ev 52 = .int .i64 tb := (δ 8 52 (by kernel_rfl) rfl).1
    clear δ φ
    try dsimp only
    simp [OpRuns, execOp, evalOf, a48, a52, go_sem]
    exact ⟨hI, rfl, ν rfl, ν rfl, ν rfl⟩
   case o10 =>
    intro ev w8 hI δ φ
    have a1 : ev 1 = .pointer (some ⟨D, 0, none⟩) := φ 1 (by kernel_rfl)
    have y0 : w8.cell? ⟨D, 0, none⟩ = some (.string (sB d.title)) := (hI.cell (p := ⟨D, 0, none⟩) hDN).trans f0
    have y1 : w8.cell? ⟨D, 1, none⟩ = some (.string (sB d.lang)) := (hI.cell (p := ⟨D, 1, none⟩) hDN).trans f1
    have y2 : w8.cell? ⟨D, 2, none⟩ = some (.int .u8 d.rate) := (hI.cell (p := ⟨D, 2, none⟩) hDN).trans f2
    have y3 : w8.cell? ⟨D, 3, none⟩ = some (.bool d.drop) := (hI.cell (p := ⟨D, 3, none⟩) hDN).trans f3
    have y4 : w8.cell? ⟨D, 4, none⟩ = some (.int .i64 d.last) := (hI.cell (p := ⟨D, 4, none⟩) hDN).trans f4
    have y5 : w8.cell? ⟨D, 5, none⟩ = some (.slice A1 nR c1) := (hI.cell (p := ⟨D, 5, none⟩) hDN).trans f5
    have y6 : w8.cell? ⟨D, 6, none⟩ = some (.slice A n c) := (hI.cell (p := ⟨D, 6, none⟩) hDN).trans f6
    have y7 : w8.cell? ⟨D, 7, none⟩ = some (.slice A2 nK c2) := (hI.cell (p := ⟨D, 7, none⟩) hDN).trans f7
    clear δ φ
    try dsimp only
    simp [OpRuns, execOp, evalOf, a1, y0, y1, y2, y3, y4, y5, y6, y7, go_sem]
    exact ⟨hI, rfl, ν rfl, ν rfl, ν rfl⟩
   case o11 =>
    intro ev w8 hI δ φ
    have a5 : ev 5 = .slice (some ⟨g, 0, none⟩) T.length tc := φ 5 (by kernel_rfl)
    clear δ φ
    try dsimp only
    simp [OpRuns, execOp, evalOf, a5, go_sem]
    exact ⟨hI, rfl, ν rfl, ν rfl, ν rfl⟩
   case o12 =>
    intro ev w8 hI δ φ
    have a9 : ev 9 = .int .i64 ((j : Int) + 1) := φ 9 (by kernel_rfl)
    clear δ φ
    try dsimp only
    simp [OpRuns, execOp, evalOf, a9, go_sem]
    exact ⟨hI, rfl, ν rfl, ν rfl, ν rfl⟩
   case o13 =>
    intro ev w8 hI δ φ
    have a56 : ev 56 = .int .i64 ((j : Int) + 1) := (δ 12 56 (by kernel_rfl) rfl).1
    clear δ φ
    try dsimp only
    simp [OpRuns, execOp, evalOf, a56, hwj, go_sem]
    exact ⟨hI, rfl, ν rfl, ν rfl, ν rfl⟩
   case o14 =>
    intro ev w8 hI δ φ
    have a55 : ev 55 = .slice (some ⟨g, 0, none⟩) T.length tc := (δ 11 55 (by kernel_rfl) rfl).1
    have a57 : ev 57 = .int .i64 (j : Int) := (δ 13 57 (by kernel_rfl) rfl).1
    clear δ φ
    try dsimp only
    simp [OpRuns, execOp, evalOf, a55, a57, hj1, go_sem]
    exact ⟨hI, rfl, ν rfl, ν rfl, ν rfl⟩
   case o15 =>
    intro ev w8 hI δ φ
    have a58 : ev 58 = .pointer (some ⟨g, j, none⟩) := (δ 14 58 (by kernel_rfl) rfl).1
    have y0 : w8.cell? ⟨g, j, none⟩ = some (.int .i64 ta) := (hI.cell (p := ⟨g, j, none⟩) hgN).trans tg0
    clear δ φ
    try dsimp only
    simp [OpRuns, execOp, evalOf, a58, y0, go_sem]
    exact ⟨hI, rfl, ν rfl, ν rfl, ν rfl⟩
   case o16 =>
    intro ev w8 hI δ φ
    have a54 : ev 54 = .agg #[.string (sB d.title), .string (sB d.lang), .int .u8 d.rate, .bool d.drop, .int .i64 d.last, .slice A1 nR c1, .slice A n c, .slice A2 nK c2] := (δ 10 54 (by kernel_rfl) rfl).1
    have a59 : ev 59 = .int .i64 ta := (δ 15 59 (by kernel_rfl) rfl).1
    clear δ φ
    try dsimp only
    refine runs_call (f := 41) (args := #[.agg #[.string (sB d.title), .string (sB d.lang), .int .u8 d.rate, .bool d.drop, .int .i64 d.last, .slice A1 nR c1, .slice A n c, .slice A2 nK c2], .int .i64 ta]) (by simp [execOp, evalOf, resolve, invoke, a54, a59, go_sem]) ((HS2.out w8 (HBW.out w8 hI)).mono ?_)
    rintro e w9 ⟨⟨v, he, hrow⟩, hb⟩
    exact ⟨_, he, hI.trans (hb.mono (HSZ.out w8 hI)), PhiSw.ext D g N j n nR nK c c1 c2 tc T.length nS A A1 A2 d S ta tb hb, fun d hd => by cases hd; exact ⟨trivial, ν rfl, fun e => hrow, ν rfl⟩⟩
   case o17 =>
    intro ev w8 hI δ φ
    have a53 : ev 53 = .agg #[.int .i64 ta, .int .i64 tb] := (δ 9 53 (by kernel_rfl) rfl).1
    obtain ⟨R60, r60, a60, hr60⟩ := (δ 16 60 (by kernel_rfl) rfl).2.2.1 rfl
    clear δ φ
    try dsimp only
    simp [OpRuns, execOp, evalOf, a53, a60, go_sem]
    exact ⟨hI, trivial, ν rfl, ν rfl, fun e => ⟨_, _, rfl, hr60⟩⟩
   case o18 =>
   intro ev w8 hI δ φ
   clear δ φ
   try dsimp only
   simp [OpRuns, execOp, evalOf, go_sem]
   exact ⟨hI.alloc (HSZ.out w8 hI) _, PhiSw.ext D g N j n nR nK c c1 c2 tc T.length nS A A1 A2 d S ta tb (Below.more' _ _), trivial, fun e => ⟨_, rfl, HSZ.out w8 hI, HeldT.new rfl⟩, ν rfl, ν rfl⟩
  case hend =>
  intro a w6 hdf hsz hI hPhi κ
  replace hdf : a.defers = [] := hdf
  replace hsz : a.tmps.size = 108 := hsz
  obtain ⟨R61, r61, x61, hr61⟩ := (hPhi 17 61 (by omega) (by kernel_rfl)).2.2.2 rfl
  obtain ⟨h10, x10, hE10, hr10⟩ := (hPhi 18 10 (by omega) (by kernel_rfl)).2.1 rfl
  have x0 := κO κ 0 (Value.agg #[Value.string (sB d.title), Value.string (sB d.lang), Value.int IntKind.u8 d.rate, Value.bool d.drop, Value.int IntKind.i64 d.last, Value.slice A1 nR c1, Value.slice A n c, Value.slice A2 nK c2]) rfl rfl
  have x1 := κO κ 1 (Value.pointer (some { block := D, off := 0 })) rfl rfl
  have x2 := κO κ 2 (Value.slice none 0 0) rfl rfl
  have x3 := κO κ 3 (Value.int IntKind.i64 0) rfl rfl
  have x4 := κO κ 4 (Value.int IntKind.i64 0) rfl rfl
  have x5 := κO κ 5 (Value.slice (some { block := g, off := 0 }) T.length tc) rfl rfl
  have x6 := κO κ 6 (undef) rfl rfl
  have x7 := κO κ 7 (u7) rfl rfl
  have x8 := κO κ 8 (Value.slice oA nX oc) rfl rfl
  have x9 := κO κ 9 (Value.int IntKind.i64 ((↑j : Int) + 1)) rfl rfl
  have x11 := κO κ 11 (u11) rfl rfl
  have x12 := κO κ 12 (Value.agg #[Value.string (sB d.title), Value.string (sB d.lang), Value.int IntKind.u8 d.rate, Value.bool d.drop, Value.int IntKind.i64 d.last, Value.slice A1 nR c1, Value.slice A n c, Value.slice A2 nK c2]) rfl rfl
  have x13 := κO κ 13 (Value.int IntKind.i64 0) rfl rfl
  have x14 := κO κ 14 (Value.int IntKind.i64 0) rfl rfl
  have x15 := κO κ 15 (Value.bool false) rfl rfl
  have x16 := κO κ 16 (undef) rfl rfl
  have x17 := κO κ 17 (Value.pointer (some { block := D, off := 6 })) rfl rfl
  have x18 := κO κ 18 (Value.slice A n c) rfl rfl
  have x19 := κO κ 19 (Value.int IntKind.i64 (↑n : Int)) rfl rfl
  have x20 := κO κ 20 (Value.int IntKind.i64 (↑n : Int)) rfl rfl
  have x21 := κO κ 21 (Value.bool false) rfl rfl
  have x22 := κO κ 22 (u22) rfl rfl
  have x23 := κO κ 23 (u23) rfl rfl
  have x24 := κO κ 24 (u24) rfl rfl
  have x25 := κO κ 25 (u25) rfl rfl
  have x26 := κO κ 26 (u26) rfl rfl
  have x27 := κO κ 27 (u27) rfl rfl
  have x28 := κO κ 28 (u28) rfl rfl
  have x29 := κO κ 29 (u29) rfl rfl
  have x30 := κO κ 30 (u30) rfl rfl
  have x31 := κO κ 31 (u31) rfl rfl
  have x32 := κO κ 32 (u32) rfl rfl
  have x33 := κO κ 33 (u33) rfl rfl
  have x34 := κO κ 34 (uv) rfl rfl
  have x35 := κO κ 35 (Value.tuple #[]) rfl rfl
  have x36 := κO κ 36 (uv) rfl rfl
  have x37 := κO κ 37 (Value.slice (some { block := g, off := 0 }) T.length tc) rfl rfl
  have x38 := κO κ 38 (Value.int IntKind.i64 ((↑j : Int) + 1)) rfl rfl
  have x39 := κO κ 39 (Value.slice (some { block := g, off := 0 }) T.length tc) rfl rfl
  have x40 := κO κ 40 (Value.int IntKind.i64 (↑T.length : Int)) rfl rfl
  have x41 := κO κ 41 (Value.bool true) rfl rfl
  have x42 := κO κ 42 (u42) rfl rfl
  have x43 := κO κ 43 (u43) rfl rfl
  have x62 := κO κ 62 (u62) rfl rfl
  have x63 := κO κ 63 (u63) rfl rfl
  have x64 := κO κ 64 (u64) rfl rfl
  have x65 := κO κ 65 (u65) rfl rfl
  have x66 := κO κ 66 (u66) rfl rfl
  have x67 := κO κ 67 (u67) rfl rfl
  have x68 := κO κ 68 (u68) rfl rfl
  have x69 := κO κ 69 (u69) rfl rfl
  have x70 := κO κ 70 (u70) rfl rfl
  have x71 := κO κ 71 (u71) rfl rfl
  have x72 := κO κ 72 (u72) rfl rfl
  have x73 := κO κ 73 (u73) rfl rfl
  have x74 := κO κ 74 (u74) rfl rfl
  have x75 := κO κ 75 (u75) rfl rfl
  have x76 := κO κ 76 (u76) rfl rfl
  have x77 := κO κ 77 (u77) rfl rfl
  have x78 := κO κ 78 (u78) rfl rfl
  have x79 := κO κ 79 (u79) rfl rfl
  have x80 := κO κ 80 (u80) rfl rfl
  have x81 := κO κ 81 (u81) rfl rfl
  have x82 := κO κ 82 (u82) rfl rfl
  have x83 := κO κ 83 (u83) rfl rfl
  have x84 := κO κ 84 (u84) rfl rfl
  have x85 := κO κ 85 (u85) rfl rfl
  have x86 := κO κ 86 (u86) rfl rfl
  have x87 := κO κ 87 (u87) rfl rfl
  have x88 := κO κ 88 (u88) rfl rfl
  have x89 := κO κ 89 (u89) rfl rfl
  have x90 := κO κ 90 (u90) rfl rfl
  have x91 := κO κ 91 (u91) rfl rfl
  have x92 := κO κ 92 (u92) rfl rfl
  have x93 := κO κ 93 (u93) rfl rfl
  have x94 := κO κ 94 (u94) rfl rfl
  have x95 := κO κ 95 (u95) rfl rfl
  have x96 := κO κ 96 (u96) rfl rfl
  have x97 := κO κ 97 (u97) rfl rfl
  have x98 := κO κ 98 (u98) rfl rfl
  have x99 := κO κ 99 (u99) rfl rfl
  have x100 := κO κ 100 (u100) rfl rfl
  have x101 := κO κ 101 (u101) rfl rfl
  have x102 := κO κ 102 (u102) rfl rfl
  have x103 := κO κ 103 (u103) rfl rfl
  have x104 := κO κ 104 (u104) rfl rfl
  have x105 := κO κ 105 (u105) rfl rfl
  have x106 := κO κ 106 (u106) rfl rfl
  have x107 := κO κ 107 (undef) rfl rfl
  have ea := act_lit hsz hdf
  simp only [getDs] at ea
  rw [x61, x10, x0, x1, x2, x3, x4, x5, x6, x7, x8, x9, x11, x12, x13, x14, x15, x16, x17, x18, x19, x20, x21, x22, x23, x24, x25, x26, x27, x28, x29, x30, x31, x32, x33, x34, x35, x36, x37, x38, x39, x40, x41, x42, x43, x62, x63, x64, x65, x66, x67, x68, x69, x70, x71, x72, x73, x74, x75, x76, x77, x78, x79, x80, x81, x82, x83, x84, x85, x86, x87, x88, x89, x90, x91, x92, x93, x94, x95, x96, x97, x98, x99, x100, x101, x102, x103, x104, x105, x106, x107] at ea
  rw [ea]
  clear ea x61 x10 x0 x1 x2 x3 x4 x5 x6 x7 x8 x9 x11 x12 x13 x14 x15 x16 x17 x18 x19 x20 x21 x22 x23 x24 x25 x26 x27 x28 x29 x30 x31 x32 x33 x34 x35 x36 x37 x38 x39 x40 x41 x42 x43 x62 x63 x64 x65 x66 x67 x68 x69 x70 x71 x72 x73 x74 x75 x76 x77 x78 x79 x80 x81 x82 x83 x84 x85 x86 x87 x88 x89 x90 x91 x92 x93 x94 x95 x96 x97 x98 x99 x100 x101 x102 x103 x104 x105 x106 x107 hPhi κ hdf hsz
  generalize a.tmps.getD 44 undef = u44, a.tmps.getD 45 undef = u45, a.tmps.getD 46 undef = u46, a.tmps.getD 47 undef = u47, a.tmps.getD 48 undef = u48, a.tmps.getD 49 undef = u49, a.tmps.getD 50 undef = u50, a.tmps.getD 51 undef = u51, a.tmps.getD 52 undef = u52, a.tmps.getD 53 undef = u53, a.tmps.getD 54 undef = u54, a.tmps.getD 55 undef = u55, a.tmps.getD 56 undef = u56, a.tmps.getD 57 undef = u57, a.tmps.getD 58 undef = u58, a.tmps.getD 59 undef = u59, a.tmps.getD 60 undef = u60
  clear a
  have B6 := ι (show Below w4.heap.size w4 w6 from BR.out.trans (hI.mono hN4r2))
  have hIs := hI.mono (Nat.le_of_eq HN.out.symm)
  have O6 := ι hr10
  have G6 := ι hr61
  have BI := ι hI
  have oq := O6.out.held.cell
  have oy := O6.out.held.free
  have hO6 := O6.out.lt
  have HSTR := ι (show ∀ w7, w7 = w6.setCells h10 0 [.int .i64 ta, .int .i64 tb, .slice R61 nS r61] → HeldT w7 h10 87 [.int .i64 ta, .int .i64 tb, .slice R61 nS r61] ∧ SeqT w7 112 6 (Flat Gl.cs) (.slice R61 nS r61) S ∧ ShI w7 w4.heap.size (.slice oA nX oc) X ∧ Below w4.heap.size w4 w7 ∧ Below N wr w7 from fun w7 h7 => by
   have bb : Below N wr w7 := by rw [h7]; exact Below.all hE10 [.int .i64 ta, .int .i64 tb, .slice R61 nS r61] 0 BI.out
   refine ⟨by rw [h7]; exact O6.out.all [.int .i64 ta, .int .i64 tb, .slice R61 nS r61] rfl, SeqT.keep (S := IsGl) G6.out rfl (by rw [h7]; exact KeepS.puts (by unfold IsGl; decide) [.int .i64 ta, .int .i64 tb, .slice R61 nS r61] 0 O6.out) (fun _ _ h => h), ShI.ext HS.out (bb.mono (Nat.le_of_eq HN.out.symm)), BR.out.trans (bb.mono hN4r2), bb⟩)
  have hwx : IntKind.i64.wrap ((nX : Int) - 1) = (nX : Int) - 1 := by rw [IntKind.wrap_i64]; omega
  clear f0 f1 f2 f3 f4 f5 f6 f7 tg0 tg1 HSZ HBW HS2 HSC HS BR hIs hI B6 hr10 hr61
  have hSl : nS ≤ 1000000 := by rw [HNS.out, HSV.out]; exact HFL.out ta
  have HK := ι (show ∀ Z, shwStep S ta tb X = Z → shwK F T (j + 1) = Z from fun Z h => by
   show shwStep (F (T.getD j 0)) (T.getD j 0) (T.getD (j + 1) 0) (shwK F T j) = Z
   rw [← HXV.out, ← HTA.out, ← HTB.out, ← HSV.out]
   exact h)
  by_cases hz : nS = 0
  ·subst hz
   go_wp2_with fail
   obtain ⟨h1, h2, h3, h4, h5⟩ := HSTR.out _ rfl
   have hK := HK.out X (step_none HNS.out.symm)
   refine ⟨⟨j + 1, _, rfl, by go_num, by omega, ι ?_, ι h4⟩, by simp [intOf]; omega⟩
   rw [hK]
   exact h3
  have hz1 : ((nS : Int) == 0) = false := by simp; omega
  have hS0 : S.length ≠ 0 := by rw [← HNS.out]; exact hz
  go_wp2_with fail
  generalize hw7 : World.setCell _ _ _ = w7
  obtain ⟨h1, h2, h3, h4, h5⟩ := HSTR.out w7 (by rw [← hw7]; rfl)
  have O7 := ι h1
  have G7 := ι h2
  have HS7 := ι h3
  have B7 := ι h4
  have BX7 := ι (show Below w.heap.size w w7 from BX.out.trans (h5.mono (by have := BX.out.size; have := HN.out; omega)))
  clear hw7 h1 h2 h3 h4 h5 oq oy O6 G6 BI HSTR hO6 hE10
  have h107 : h10 < w7.heap.size := O7.out.lt
  have s0 : w7.cell? ⟨h10, 0, none⟩ = some (.int .i64 ta) := O7.out.held.cell 0
  have s1 : w7.cell? ⟨h10, 1, none⟩ = some (.int .i64 tb) := O7.out.held.cell 1
  have s2 : w7.cell? ⟨h10, 2, none⟩ = some (.slice R61 nS r61) := O7.out.held.cell 2
  obtain ⟨og, m, nl, gc, gA, lo, bA, bB, bC, hog7, hbA, hbB, IB, l1, l2, HSM, HTU, HAD⟩ := show_look ta tb HS7.out HNX.out G7.out (shwK_gl HFL.out HXV.out) hS0 h107
  obtain ⟨kk, hkk⟩ : ∃ k, k = (nX : Int) - 1 := ⟨_, rfl⟩
  obtain ⟨N7, hN7⟩ : ∃ N, N = w7.heap.size := ⟨_, rfl⟩
  rw [← hkk] at hbA IB ⊢
  rw [← hN7] at h107 hog7 HSM
  have HSM := ι HSM
  have HTU := ι HTU
  have HAD := ι HAD
  have HBA := ι hbA
  have HBB := ι hbB
  have HIB := ι IB
  have HL1 := ι l1
  have HL2 := ι l2
  have HN7 := ι hN7
  have HSZ := ι (show ∀ w', Below N7 w7 w' → N7 ≤ w'.heap.size from fun w' h => by have := h.size; omega)
  clear hN7 hkk hbA hbB IB l1 l2 hwx hz1
  refine wp_region_spec (by kernel_rfl) (fun w' => Below N7 w7 w') (PhiSv og h10 m nX oc nl gc nS r61 oA gA R61 lo ta kk bA bB bC) 108 rfl (by kernel_rfl) (Below.refl _ _).drew ?hops ?hend
  case hops =>
   refine ⟨?o0, ?o1, ?o2, ?o3, ?o4, ?o5, ?o6, ?o7, ?o8, ?o9, ?o10, ?o11, ?o12, ?o13, ?o14, ?o15, ?o16, ?o17, ?o18, ?o19, ?o20, ?o21, ?o22, ?o23, ?o24, trivial⟩
   case o0 =>
    intro ev w8 hI δ φ
    have a11 : ev 11 = .int .i64 kk := φ 11 (by kernel_rfl)
    clear δ φ
    try dsimp only
    simp [OpRuns, execOp, evalOf, a11, go_sem]
    exact ⟨hI, rfl, trivial⟩
   case o1 =>
    intro ev w8 hI δ φ
    have a75 : ev 75 = .int .i64 kk := (δ 0 75 (by kernel_rfl) rfl).1
    clear δ φ
    try dsimp only
    simp [OpRuns, execOp, evalOf, a75, ← HBA.out, go_sem]
    exact ⟨hI, rfl, trivial⟩
   case o2 =>
    intro ev w8 hI δ φ
    have a76 : ev 76 = .bool (bA) := (δ 1 76 (by kernel_rfl) rfl).1
    clear δ φ
    try dsimp only
    simp [OpRuns, execOp, evalOf, a76, go_sem]
    exact ⟨hI, rfl, trivial⟩
   case o3 =>
    intro ev w8 hI δ φ
    have ag : ev 77 = .bool bA := (δ 2 77 (by kernel_rfl) rfl).1
    refine γ ag rfl (fun hR => ?_) fun hn d hd => by cases hd; exact ⟨⟨fun hr => absurd hr hn, fun _ => rfl⟩, trivial⟩
    clear ag
    have a8 : ev 8 = .slice oA nX oc := φ 8 (by kernel_rfl)
    clear δ φ
    try dsimp only
    simp [OpRuns, execOp, evalOf, a8, go_sem]
    exact ⟨hI, ⟨fun _ => rfl, fun h => absurd hR h⟩, trivial⟩
   case o4 =>
    intro ev w8 hI δ φ
    have ag : ev 77 = .bool bA := (δ 2 77 (by kernel_rfl) rfl).1
    refine γ ag rfl (fun hR => ?_) fun hn d hd => by cases hd; exact ⟨⟨fun hr => absurd hr hn, fun _ => rfl⟩, trivial⟩
    clear ag
    have a11 : ev 11 = .int .i64 kk := φ 11 (by kernel_rfl)
    clear δ φ
    try dsimp only
    simp [OpRuns, execOp, evalOf, a11, go_sem]
    exact ⟨hI, ⟨fun _ => rfl, fun h => absurd hR h⟩, trivial⟩
   case o5 =>
    intro ev w8 hI δ φ
    have ag : ev 77 = .bool bA := (δ 2 77 (by kernel_rfl) rfl).1
    refine γ ag rfl (fun hR => ?_) fun hn d hd => by cases hd; exact ⟨⟨fun hr => absurd hr hn, fun _ => rfl⟩, trivial⟩
    clear ag
    obtain ⟨e1, e2, e3⟩ := HIB.out hR
    have a78 : ev 78 = .slice oA nX oc := (δ 3 78 (by kernel_rfl) rfl).1.1 hR
    have a79 : ev 79 = .int .i64 kk := (δ 4 79 (by kernel_rfl) rfl).1.1 hR
    clear δ φ
    try dsimp only
    simp [OpRuns, execOp, evalOf, a78, a79, e1, e2, e3, go_sem]
    exact ⟨hI, ⟨fun _ => rfl, fun h => absurd hR h⟩, trivial⟩
   case o6 =>
    intro ev w8 hI δ φ
    have ag : ev 77 = .bool bA := (δ 2 77 (by kernel_rfl) rfl).1
    refine γ ag rfl (fun hR => ?_) fun hn d hd => by cases hd; exact ⟨⟨fun hr => absurd hr hn, fun _ => rfl⟩, trivial⟩
    clear ag
    have a80 : ev 80 = .pointer (some ⟨og, m * 3, none⟩) := (δ 5 80 (by kernel_rfl) rfl).1.1 hR
    clear δ φ
    try dsimp only
    simp [OpRuns, execOp, evalOf, a80, go_sem]
    exact ⟨hI, ⟨fun _ => rfl, fun h => absurd hR h⟩, trivial⟩
   case o7 =>
    intro ev w8 hI δ φ
    have ag : ev 77 = .bool bA := (δ 2 77 (by kernel_rfl) rfl).1
    refine γ ag rfl (fun hR => ?_) fun hn d hd => by cases hd; exact ⟨⟨fun hr => absurd hr hn, fun _ => rfl⟩, trivial⟩
    clear ag
    have a81 : ev 81 = .pointer (some ⟨og, m * 3, none⟩) := (δ 6 81 (by kernel_rfl) rfl).1.1 hR
    clear δ φ
    try dsimp only
    simp [OpRuns, execOp, evalOf, a81, go_sem]
    exact ⟨hI, ⟨fun _ => rfl, fun h => absurd hR h⟩, trivial⟩
   case o8 =>
    intro ev w8 hI δ φ
    have ag : ev 77 = .bool bA := (δ 2 77 (by kernel_rfl) rfl).1
    refine γ ag rfl (fun hR => ?_) fun hn d hd => by cases hd; exact ⟨⟨fun hr => absurd hr hn, fun _ => rfl⟩, trivial⟩
    clear ag
    have a82 : ev 82 = .pointer (some ⟨og, m * 3 + 1, none⟩) := (δ 7 82 (by kernel_rfl) rfl).1.1 hR
    have y0 : w8.cell? ⟨og, m * 3 + 1, none⟩ = some (.int .i64 lo) := (hI.cell (p := ⟨og, m * 3 + 1, none⟩) hog7).trans (HL1.out hR)
    clear δ φ
    try dsimp only
    simp [OpRuns, execOp, evalOf, a82, y0, go_sem]
    exact ⟨hI, ⟨fun _ => rfl, fun h => absurd hR h⟩, trivial⟩
   case o9 =>
    intro ev w8 hI δ φ
    have ag : ev 77 = .bool bA := (δ 2 77 (by kernel_rfl) rfl).1
    refine γ ag rfl (fun hR => ?_) fun hn d hd => by cases hd; exact ⟨⟨fun hr => absurd hr hn, fun _ => rfl⟩, trivial⟩
    clear ag
    have a10 : ev 10 = .pointer (some ⟨h10, 0, none⟩) := φ 10 (by kernel_rfl)
    clear δ φ
    try dsimp only
    simp [OpRuns, execOp, evalOf, a10, go_sem]
    exact ⟨hI, ⟨fun _ => rfl, fun h => absurd hR h⟩, trivial⟩
   case o10 =>
    intro ev w8 hI δ φ
    have ag : ev 77 = .bool bA := (δ 2 77 (by kernel_rfl) rfl).1
    refine γ ag rfl (fun hR => ?_) fun hn d hd => by cases hd; exact ⟨⟨fun hr => absurd hr hn, fun _ => rfl⟩, trivial⟩
    clear ag
    have a84 : ev 84 = .pointer (some ⟨h10, 0, none⟩) := (δ 9 84 (by kernel_rfl) rfl).1.1 hR
    clear δ φ
    try dsimp only
    simp [OpRuns, execOp, evalOf, a84, go_sem]
    exact ⟨hI, ⟨fun _ => rfl, fun h => absurd hR h⟩, trivial⟩
   case o11 =>
    intro ev w8 hI δ φ
    have ag : ev 77 = .bool bA := (δ 2 77 (by kernel_rfl) rfl).1
    refine γ ag rfl (fun hR => ?_) fun hn d hd => by cases hd; exact ⟨⟨fun hr => absurd hr hn, fun _ => rfl⟩, trivial⟩
    clear ag
    have a85 : ev 85 = .pointer (some ⟨h10, 0, none⟩) := (δ 10 85 (by kernel_rfl) rfl).1.1 hR
    have y0 : w8.cell? ⟨h10, 0, none⟩ = some (.int .i64 ta) := (hI.cell (p := ⟨h10, 0, none⟩) h107).trans s0
    clear δ φ
    try dsimp only
    simp [OpRuns, execOp, evalOf, a85, y0, go_sem]
    exact ⟨hI, ⟨fun _ => rfl, fun h => absurd hR h⟩, trivial⟩
   case o12 =>
    intro ev w8 hI δ φ
    have ag : ev 77 = .bool bA := (δ 2 77 (by kernel_rfl) rfl).1
    refine γ ag rfl (fun hR => ?_) fun hn d hd => by cases hd; exact ⟨⟨fun hr => absurd hr hn, fun _ => rfl⟩, trivial⟩
    clear ag
    have a83 : ev 83 = .int .i64 lo := (δ 8 83 (by kernel_rfl) rfl).1.1 hR
    have a86 : ev 86 = .int .i64 ta := (δ 11 86 (by kernel_rfl) rfl).1.1 hR
    clear δ φ
    try dsimp only
    simp [OpRuns, execOp, evalOf, a83, a86, ← HBB.out, go_sem]
    exact ⟨hI, ⟨fun _ => rfl, fun h => absurd hR h⟩, trivial⟩
   case o13 =>
    intro ev w8 hI δ φ
    have a77 : ev 77 = .bool (bA) := (δ 2 77 (by kernel_rfl) rfl).1
    have ax : bA = true → ev 87 = .bool (bB) := fun hc => (δ 12 87 (by kernel_rfl) rfl).1.1 hc
    clear δ φ
    obtain ⟨cc, hcc⟩ : ∃ cc, cc = bA := ⟨_, rfl⟩
    rw [← hcc] at a77
    cases cc with
    | true =>
     have ax := ax hcc.symm
     have hv : (Value.bool (bB)) = (Value.bool (bA && bB)) := by rw [← hcc]; simp
     clear hcc
     try dsimp only
     simp [OpRuns, execOp, evalOf, a77, ax, go_sem]
     exact ⟨hI, hv, trivial⟩
    | false =>
     clear ax
     have hv : Value.bool false = (Value.bool (bA && bB)) := by rw [← hcc]; simp
     clear hcc
     try dsimp only
     simp [OpRuns, execOp, evalOf, a77, go_sem]
     exact ⟨hI, hv, trivial⟩
   case o14 =>
    intro ev w8 hI δ φ
    have a88 : ev 88 = .bool (bA && bB) := (δ 13 88 (by kernel_rfl) rfl).1
    clear δ φ
    try dsimp only
    simp [OpRuns, execOp, evalOf, a88, go_sem]
    exact ⟨hI, rfl, trivial⟩
   case o15 =>
    intro ev w8 hI δ φ
    have ag : ev 89 = .bool (bA && bB) := (δ 14 89 (by kernel_rfl) rfl).1
    refine γ ag rfl (fun hR => ?_) fun hn d hd => by cases hd; exact ⟨⟨fun hr => absurd hr hn, fun _ => rfl⟩, trivial⟩
    clear ag
    have a8 : ev 8 = .slice oA nX oc := φ 8 (by kernel_rfl)
    clear δ φ
    try dsimp only
    simp [OpRuns, execOp, evalOf, a8, go_sem]
    exact ⟨hI, ⟨fun _ => rfl, fun h => absurd hR h⟩, trivial⟩
   case o16 =>
    intro ev w8 hI δ φ
    have ag : ev 89 = .bool (bA && bB) := (δ 14 89 (by kernel_rfl) rfl).1
    refine γ ag rfl (fun hR => ?_) fun hn d hd => by cases hd; exact ⟨⟨fun hr => absurd hr hn, fun _ => rfl⟩, trivial⟩
    clear ag
    have a11 : ev 11 = .int .i64 kk := φ 11 (by kernel_rfl)
    clear δ φ
    try dsimp only
    simp [OpRuns, execOp, evalOf, a11, go_sem]
    exact ⟨hI, ⟨fun _ => rfl, fun h => absurd hR h⟩, trivial⟩
   case o17 =>
    intro ev w8 hI δ φ
    have ag : ev 89 = .bool (bA && bB) := (δ 14 89 (by kernel_rfl) rfl).1
    refine γ ag rfl (fun hR => ?_) fun hn d hd => by cases hd; exact ⟨⟨fun hr => absurd hr hn, fun _ => rfl⟩, trivial⟩
    clear ag
    obtain ⟨e1, e2, e3⟩ := HIB.out (Bool.and_eq_true_iff.1 hR).1
    have a90 : ev 90 = .slice oA nX oc := (δ 15 90 (by kernel_rfl) rfl).1.1 hR
    have a91 : ev 91 = .int .i64 kk := (δ 16 91 (by kernel_rfl) rfl).1.1 hR
    clear δ φ
    try dsimp only
    simp [OpRuns, execOp, evalOf, a90, a91, e1, e2, e3, go_sem]
    exact ⟨hI, ⟨fun _ => rfl, fun h => absurd hR h⟩, trivial⟩
   case o18 =>
    intro ev w8 hI δ φ
    have ag : ev 89 = .bool (bA && bB) := (δ 14 89 (by kernel_rfl) rfl).1
    refine γ ag rfl (fun hR => ?_) fun hn d hd => by cases hd; exact ⟨⟨fun hr => absurd hr hn, fun _ => rfl⟩, trivial⟩
    clear ag
    have a92 : ev 92 = .pointer (some ⟨og, m * 3, none⟩) := (δ 17 92 (by kernel_rfl) rfl).1.1 hR
    clear δ φ
    try dsimp only
    simp [OpRuns, execOp, evalOf, a92, go_sem]
    exact ⟨hI, ⟨fun _ => rfl, fun h => absurd hR h⟩, trivial⟩
   case o19 =>
    intro ev w8 hI δ φ
    have ag : ev 89 = .bool (bA && bB) := (δ 14 89 (by kernel_rfl) rfl).1
    refine γ ag rfl (fun hR => ?_) fun hn d hd => by cases hd; exact ⟨⟨fun hr => absurd hr hn, fun _ => rfl⟩, trivial⟩
    clear ag
    have hA := (Bool.and_eq_true_iff.1 hR).1
    have a93 : ev 93 = .pointer (some ⟨og, m * 3 + 2, none⟩) := (δ 18 93 (by kernel_rfl) rfl).1.1 hR
    have y0 : w8.cell? ⟨og, m * 3 + 2, none⟩ = some (.slice gA nl gc) := (hI.cell (p := ⟨og, m * 3 + 2, none⟩) hog7).trans (HL2.out hA)
    clear δ φ
    try dsimp only
    simp [OpRuns, execOp, evalOf, a93, y0, go_sem]
    exact ⟨hI, ⟨fun _ => rfl, fun h => absurd hR h⟩, trivial⟩
   case o20 =>
    intro ev w8 hI δ φ
    have ag : ev 89 = .bool (bA && bB) := (δ 14 89 (by kernel_rfl) rfl).1
    refine γ ag rfl (fun hR => ?_) fun hn d hd => by cases hd; exact ⟨⟨fun hr => absurd hr hn, fun _ => rfl⟩, trivial⟩
    clear ag
    have a10 : ev 10 = .pointer (some ⟨h10, 0, none⟩) := φ 10 (by kernel_rfl)
    clear δ φ
    try dsimp only
    simp [OpRuns, execOp, evalOf, a10, go_sem]
    exact ⟨hI, ⟨fun _ => rfl, fun h => absurd hR h⟩, trivial⟩
   case o21 =>
    intro ev w8 hI δ φ
    have ag : ev 89 = .bool (bA && bB) := (δ 14 89 (by kernel_rfl) rfl).1
    refine γ ag rfl (fun hR => ?_) fun hn d hd => by cases hd; exact ⟨⟨fun hr => absurd hr hn, fun _ => rfl⟩, trivial⟩
    clear ag
    have a95 : ev 95 = .pointer (some ⟨h10, 2, none⟩) := (δ 20 95 (by kernel_rfl) rfl).1.1 hR
    have y0 : w8.cell? ⟨h10, 2, none⟩ = some (.slice R61 nS r61) := (hI.cell (p := ⟨h10, 2, none⟩) h107).trans s2
    clear δ φ
    try dsimp only
    simp [OpRuns, execOp, evalOf, a95, y0, go_sem]
    exact ⟨hI, ⟨fun _ => rfl, fun h => absurd hR h⟩, trivial⟩
   case o22 =>
    intro ev w8 hI δ φ
    have ag : ev 89 = .bool (bA && bB) := (δ 14 89 (by kernel_rfl) rfl).1
    refine γ ag rfl (fun hR => ?_) fun hn d hd => by cases hd; exact ⟨⟨fun hr => absurd hr hn, fun _ => rfl⟩, trivial⟩
    clear ag
    have hA := (Bool.and_eq_true_iff.1 hR).1
    have a94 : ev 94 = .slice gA nl gc := (δ 19 94 (by kernel_rfl) rfl).1.1 hR
    have a96 : ev 96 = .slice R61 nS r61 := (δ 21 96 (by kernel_rfl) rfl).1.1 hR
    clear δ φ
    try dsimp only
    refine runs_call (f := 17) (args := #[.slice gA nl gc, .slice R61 nS r61]) (by simp [execOp, evalOf, resolve, invoke, a94, a96, go_sem]) ((HSM.out hA w8 hI).mono ?_)
    rintro e w9 ⟨he, hb⟩
    exact ⟨_, he, hI.trans (hb.mono (HSZ.out w8 hI)), PhiSv.ext og h10 m nX oc nl gc nS r61 oA gA R61 lo ta kk bA bB bC hb, fun d hd => by cases hd; exact ⟨⟨fun _ => rfl, fun h => absurd hR h⟩, trivial⟩⟩
   case o23 =>
    intro ev w8 hI δ φ
    have a89 : ev 89 = .bool (bA && bB) := (δ 14 89 (by kernel_rfl) rfl).1
    have ax : (bA && bB) = true → ev 97 = .bool bC := fun hc => (δ 22 97 (by kernel_rfl) rfl).1.1 hc
    clear δ φ
    obtain ⟨cc, hcc⟩ : ∃ cc, cc = (bA && bB) := ⟨_, rfl⟩
    rw [← hcc] at a89
    cases cc with
    | true =>
     have ax := ax hcc.symm
     have hv : (Value.bool (bC)) = (Value.bool ((bA && bB) && bC)) := by rw [← hcc]; simp
     clear hcc
     try dsimp only
     simp [OpRuns, execOp, evalOf, a89, ax, go_sem]
     exact ⟨hI, hv, trivial⟩
    | false =>
     clear ax
     have hv : Value.bool false = (Value.bool ((bA && bB) && bC)) := by rw [← hcc]; simp
     clear hcc
     try dsimp only
     simp [OpRuns, execOp, evalOf, a89, go_sem]
     exact ⟨hI, hv, trivial⟩
   case o24 =>
   intro ev w8 hI δ φ
   have a98 : ev 98 = .bool ((bA && bB) && bC) := (δ 23 98 (by kernel_rfl) rfl).1
   clear δ φ
   try dsimp only
   simp [OpRuns, execOp, evalOf, a98, go_sem]
   exact ⟨hI, rfl, trivial⟩
  case hend =>
  intro a w8 hdf hsz hI hPhi κ
  replace hdf : a.defers = [] := hdf
  replace hsz : a.tmps.size = 108 := hsz
  have x74 : a.tmps.getD 74 undef = .bool ((bA && bB) && bC) := (hPhi 24 74 (by kernel_rfl)).1
  have x0 := κA κ 0 (Value.agg #[Value.string (sB d.title), Value.string (sB d.lang), Value.int IntKind.u8 d.rate, Value.bool d.drop, Value.int IntKind.i64 d.last, Value.slice A1 nR c1, Value.slice A n c, Value.slice A2 nK c2]) rfl rfl
  have x1 := κA κ 1 (Value.pointer (some { block := D, off := 0 })) rfl rfl
  have x2 := κA κ 2 (Value.slice none 0 0) rfl rfl
  have x3 := κA κ 3 (Value.int IntKind.i64 0) rfl rfl
  have x4 := κA κ 4 (Value.int IntKind.i64 0) rfl rfl
  have x5 := κA κ 5 (Value.slice (some { block := g, off := 0 }) T.length tc) rfl rfl
  have x6 := κA κ 6 (undef) rfl rfl
  have x7 := κA κ 7 (u7) rfl rfl
  have x8 := κA κ 8 (Value.slice oA nX oc) rfl rfl
  have x9 := κA κ 9 (Value.int IntKind.i64 ((↑j : Int) + 1)) rfl rfl
  have x10 := κA κ 10 (Value.pointer (some { block := h10, off := 0 })) rfl rfl
  have x11 := κA κ 11 (Value.int IntKind.i64 kk) rfl rfl
  have x12 := κA κ 12 (Value.agg #[Value.string (sB d.title), Value.string (sB d.lang), Value.int IntKind.u8 d.rate, Value.bool d.drop, Value.int IntKind.i64 d.last, Value.slice A1 nR c1, Value.slice A n c, Value.slice A2 nK c2]) rfl rfl
  have x13 := κA κ 13 (Value.int IntKind.i64 0) rfl rfl
  have x14 := κA κ 14 (Value.int IntKind.i64 0) rfl rfl
  have x15 := κA κ 15 (Value.bool false) rfl rfl
  have x16 := κA κ 16 (undef) rfl rfl
  have x17 := κA κ 17 (Value.pointer (some { block := D, off := 6 })) rfl rfl
  have x18 := κA κ 18 (Value.slice A n c) rfl rfl
  have x19 := κA κ 19 (Value.int IntKind.i64 (↑n : Int)) rfl rfl
  have x20 := κA κ 20 (Value.int IntKind.i64 (↑n : Int)) rfl rfl
  have x21 := κA κ 21 (Value.bool false) rfl rfl
  have x22 := κA κ 22 (u22) rfl rfl
  have x23 := κA κ 23 (u23) rfl rfl
  have x24 := κA κ 24 (u24) rfl rfl
  have x25 := κA κ 25 (u25) rfl rfl
  have x26 := κA κ 26 (u26) rfl rfl
  have x27 := κA κ 27 (u27) rfl rfl
  have x28 := κA κ 28 (u28) rfl rfl
  have x29 := κA κ 29 (u29) rfl rfl
  have x30 := κA κ 30 (u30) rfl rfl
  have x31 := κA κ 31 (u31) rfl rfl
  have x32 := κA κ 32 (u32) rfl rfl
  have x33 := κA κ 33 (u33) rfl rfl
  have x34 := κA κ 34 (uv) rfl rfl
  have x35 := κA κ 35 (Value.tuple #[]) rfl rfl
  have x36 := κA κ 36 (uv) rfl rfl
  have x37 := κA κ 37 (Value.slice (some { block := g, off := 0 }) T.length tc) rfl rfl
  have x38 := κA κ 38 (Value.int IntKind.i64 ((↑j : Int) + 1)) rfl rfl
  have x39 := κA κ 39 (Value.slice (some { block := g, off := 0 }) T.length tc) rfl rfl
  have x40 := κA κ 40 (Value.int IntKind.i64 (↑T.length : Int)) rfl rfl
  have x41 := κA κ 41 (Value.bool true) rfl rfl
  have x42 := κA κ 42 (u42) rfl rfl
  have x43 := κA κ 43 (u43) rfl rfl
  have x44 := κA κ 44 (u44) rfl rfl
  have x45 := κA κ 45 (u45) rfl rfl
  have x46 := κA κ 46 (u46) rfl rfl
  have x47 := κA κ 47 (u47) rfl rfl
  have x48 := κA κ 48 (u48) rfl rfl
  have x49 := κA κ 49 (u49) rfl rfl
  have x50 := κA κ 50 (u50) rfl rfl
  have x51 := κA κ 51 (u51) rfl rfl
  have x52 := κA κ 52 (u52) rfl rfl
  have x53 := κA κ 53 (u53) rfl rfl
  have x54 := κA κ 54 (u54) rfl rfl
  have x55 := κA κ 55 (u55) rfl rfl
  have x56 := κA κ 56 (u56) rfl rfl
  have x57 := κA κ 57 (u57) rfl rfl
  have x58 := κA κ 58 (u58) rfl rfl
  have x59 := κA κ 59 (u59) rfl rfl
  have x60 := κA κ 60 (u60) rfl rfl
  have x61 := κA κ 61 (Value.agg #[Value.int IntKind.i64 ta, Value.int IntKind.i64 tb, Value.slice R61 nS r61]) rfl rfl
  have x62 := κA κ 62 (Value.slice oA nX oc) rfl rfl
  have x63 := κA κ 63 (Value.int IntKind.i64 (↑nX : Int)) rfl rfl
  have x64 := κA κ 64 (Value.int IntKind.i64 kk) rfl rfl
  have x65 := κA κ 65 (u65) rfl rfl
  have x66 := κA κ 66 (u66) rfl rfl
  have x67 := κA κ 67 (u67) rfl rfl
  have x68 := κA κ 68 (u68) rfl rfl
  have x69 := κA κ 69 (Value.bool false) rfl rfl
  have x70 := κA κ 70 (Value.pointer (some { block := h10, off := 2 })) rfl rfl
  have x71 := κA κ 71 (Value.slice R61 nS r61) rfl rfl
  have x72 := κA κ 72 (Value.int IntKind.i64 (↑nS : Int)) rfl rfl
  have x73 := κA κ 73 (Value.bool false) rfl rfl
  have x99 := κA κ 99 (u99) rfl rfl
  have x100 := κA κ 100 (u100) rfl rfl
  have x101 := κA κ 101 (u101) rfl rfl
  have x102 := κA κ 102 (u102) rfl rfl
  have x103 := κA κ 103 (u103) rfl rfl
  have x104 := κA κ 104 (u104) rfl rfl
  have x105 := κA κ 105 (u105) rfl rfl
  have x106 := κA κ 106 (u106) rfl rfl
  have x107 := κA κ 107 (undef) rfl rfl
  have ea := act_lit hsz hdf
  simp only [getDs] at ea
  rw [x74, x0, x1, x2, x3, x4, x5, x6, x7, x8, x9, x10, x11, x12, x13, x14, x15, x16, x17, x18, x19, x20, x21, x22, x23, x24, x25, x26, x27, x28, x29, x30, x31, x32, x33, x34, x35, x36, x37, x38, x39, x40, x41, x42, x43, x44, x45, x46, x47, x48, x49, x50, x51, x52, x53, x54, x55, x56, x57, x58, x59, x60, x61, x62, x63, x64, x65, x66, x67, x68, x69, x70, x71, x72, x73, x99, x100, x101, x102, x103, x104, x105, x106, x107] at ea
  rw [ea]
  clear ea x74 x0 x1 x2 x3 x4 x5 x6 x7 x8 x9 x10 x11 x12 x13 x14 x15 x16 x17 x18 x19 x20 x21 x22 x23 x24 x25 x26 x27 x28 x29 x30 x31 x32 x33 x34 x35 x36 x37 x38 x39 x40 x41 x42 x43 x44 x45 x46 x47 x48 x49 x50 x51 x52 x53 x54 x55 x56 x57 x58 x59 x60 x61 x62 x63 x64 x65 x66 x67 x68 x69 x70 x71 x72 x73 x99 x100 x101 x102 x103 x104 x105 x106 x107 hPhi κ hdf hsz
  generalize a.tmps.getD 75 undef = u75, a.tmps.getD 76 undef = u76, a.tmps.getD 77 undef = u77, a.tmps.getD 78 undef = u78, a.tmps.getD 79 undef = u79, a.tmps.getD 80 undef = u80, a.tmps.getD 81 undef = u81, a.tmps.getD 82 undef = u82, a.tmps.getD 83 undef = u83, a.tmps.getD 84 undef = u84, a.tmps.getD 85 undef = u85, a.tmps.getD 86 undef = u86, a.tmps.getD 87 undef = u87, a.tmps.getD 88 undef = u88, a.tmps.getD 89 undef = u89, a.tmps.getD 90 undef = u90, a.tmps.getD 91 undef = u91, a.tmps.getD 92 undef = u92, a.tmps.getD 93 undef = u93, a.tmps.getD 94 undef = u94, a.tmps.getD 95 undef = u95, a.tmps.getD 96 undef = u96, a.tmps.getD 97 undef = u97, a.tmps.getD 98 undef = u98
  clear a
  have hIs := hI.mono (Nat.le_of_eq HN7.out.symm)
  have hs7 : w4.heap.size ≤ w7.heap.size := B7.out.size
  have B8 := ι (show Below w4.heap.size w4 w8 from B7.out.trans (hIs.mono hs7))
  have HS8 := ι (ShI.ext HS7.out hIs)
  have G8 := ι (show SeqT w8 112 6 (Flat Gl.cs) (.slice R61 nS r61) S from SeqT.keep (S := IsGl) G7.out rfl (KeepS.ext hIs) (fun _ _ h => h))
  have O8 := ι (O7.out.ext hIs)
  have hs8 : w4.heap.size ≤ w8.heap.size := B8.out.size
  have h108 : h10 < w8.heap.size := O8.out.lt
  by_cases hT : bA = true ∧ bB = true ∧ bC = true
  ·obtain ⟨rfl, rfl, rfl⟩ := hT
   obtain ⟨hog4, hcur, Y, l, hX, hm, hst⟩ := HTU.out rfl rfl rfl
   obtain ⟨e1, e2, e3⟩ := HIB.out rfl
   have hK := HK.out _ hst
   rw [hX, e1] at HS8
   have hog8 : og < w7.heap.size := by have := HN7.out; omega
   have hcur8 : ∃ cur, w8.heap[og]? = some (.cells cur 87 (0, 0)) := by
    obtain ⟨cur, h⟩ := hcur
    exact ⟨cur, (hIs.block og hog8).trans h⟩
   have HTN := ι (ShI.turn HS8.out rfl hcur8 tb)
   rw [← hm] at HTN
   have t1 : w8.cell? ⟨og, m * 3 + 1, none⟩ = some (.int .i64 lo) := (hIs.cell (p := ⟨og, m * 3 + 1, none⟩) hog8).trans (HL1.out rfl)
   have t2 : w8.frozen? ⟨og, m * 3 + 1, none⟩ = false := by
    obtain ⟨cur, h⟩ := hcur8
    exact unfrozen_of_block h _
   have t3 : w8.cell? ⟨h10, 1, none⟩ = some (.int .i64 tb) := O8.out.held.cell 1
   subst e1
   subst e2
   clear s0 s1 s2 hst hX hm hcur hcur8 hI hIs h107 hog7
   go_wp2_with fail
   refine ⟨⟨j + 1, _, rfl, by go_num, by omega, ι ?_, ι (Below.all hog4 [.int .i64 tb] (m * 3 + 1) B8.out)⟩, by simp [intOf]; omega⟩
   rw [hK]
   exact HTN.out
  have hb : (bA && bB && bC) = false := by
   cases bA <;> cases bB <;> cases bC <;> first | rfl | exact absurd ⟨rfl, rfl, rfl⟩ hT
  rw [hb]
  have hK := HK.out _ (HAD.out hT)
  obtain ⟨cs, a1, o1⟩ := HS8.out
  rw [← HNX.out] at o1
  have A1 := ι a1
  have W1 := ι o1
  have HB2 := ι hb
  have t0 := O8.out.held.cell
  clear a1 o1 hb hT s0 s1 s2 hI hIs h107 hog7
  go_wp2_with (at_builtin; go_loud (refine wpList_append_own _ rfl _ _ 83 rfl w4.heap.size 87 i1 (.agg #[.int .i64 0, .int .i64 0, .slice none 0 0]) 3 40 Tryz.underlying83 HI1.out.1 HI1.out.2.1 HI1.out.2.2.1 HI1.out.2.2.2 rfl (by decide) _ nX _ rfl (own_ext W1.out (Below.more' _ _)) ⟨w8.heap.size, 0, none⟩ 1 1 [.int .i64 ta, .int .i64 tb, .slice R61 nS r61] rfl rfl (CellsAt.all (by simp [CellsAt, go_sem])) (by simp [Value.oneCell']) (by simp only [maxLen]; omega) (by omega) (by simp; omega) ?_))
  intro v9 w9 ho9 hgr9 _
  clear t0
  go_wp2_with fail
  refine ⟨⟨j + 1, _, rfl, by go_num, by omega, ι ?_, ι ((B8.out.alloc hs8 _).grown hgr9 (by simp; omega) (own_base W1.out))⟩, by simp [intOf]; omega⟩
  rw [hK]
  exact ShI.app A1.out (KeepS.trans (KeepS.ext (Below.more' _ _)) (KeepS.grown (own_ext W1.out (Below.more' _ _)) (by unfold IsGl; decide) hgr9)) G8.out (by rw [← HNX.out]; exact ho9)
 obtain rfl : j = T.length - 1 := by omega
 have hle : ¬ (((T.length - 1 : Nat) : Int) + 1 < (T.length : Int)) := by omega
 have HS2 := ι (show shwK F T (T.length - 1) = shwV d.regs d.evs by rw [HF.out, HT.out]; rfl)
 clear hlt
 go_wp2_with fail
 go_ret2
 exact ⟨⟨_, rfl, by rw [← HS2.out]; exact ShI.low HS.out (by omega)⟩, BX.out⟩
end Go.Proofs.YtmopjhbfobmklaaGreatDoor
