/-
  The contracts of goesOn and Join of reel. Their conditions are their hypotheses.
-/
import Derived.Test.YtmopjhbfobmklaaGreatDoorMH3
import Derived.Test.YtmopjhbfobmklaaGreatDoorMCk
set_option maxRecDepth 100000
set_option maxHeartbeats 40000000
namespace Go.Proofs.YtmopjhbfobmklaaGreatDoor
open Go.RowKit Go.Joins
set_option linter.unusedVariables false
set_option linter.unusedSimpArgs false
theorem spd_run (n d : Int) (w : World) : (Go.binOp .eql 31 (.agg #[.int .i64 n, .int .i64 d]) (.agg #[.int .i64 1, .int .i64 1])).run Tryz.prog w = Result.ok (.bool (decide (n = 1) && decide (d = 1))) w := by
 simp [go_sem, toL]
 repeat' split
 all_goals simp_all
theorem spdg_run (a b : Operand) (n d : Int) (w : World) : (eqGuard .eql 31 a b (.agg #[.int .i64 n, .int .i64 d]) (.agg #[.int .i64 1, .int .i64 1])).run Tryz.prog w = Result.ok () w := by
 simp [go_sem]
theorem goon_any' (a b : Ct) (w : World) (ha : 0 ≤ a.i ∧ a.i < a.o ∧ a.o ≤ 5184000 ∧ 0 ≤ a.src ∧ a.src < 5184000) :
  Calls Tryz.prog 57 #[a.v, b.v] w fun e w' => e = .returned (.bool (goonB a b)) ∧ Below w.heap.size w w' := by
 obtain ⟨h1, h2, h3, h4, h5⟩ := ha
 obtain ⟨num, reel, src, i, o, n, d⟩ := a
 obtain ⟨num2, reel2, src2, i2, o2, n2, d2⟩ := b
 dsimp only at h1 h2 h3 h4 h5
 obtain ⟨r1, hr1⟩ : ∃ r, r = decide (reel = reel2) := ⟨_, rfl⟩
 obtain ⟨s1, hs1⟩ : ∃ r, r = (decide (n = 1) && decide (d = 1)) := ⟨_, rfl⟩
 obtain ⟨s2, hs2⟩ : ∃ r, r = (decide (n2 = 1) && decide (d2 = 1)) := ⟨_, rfl⟩
 obtain ⟨p1, hp1⟩ : ∃ r, r = decide (o = i2) := ⟨_, rfl⟩
 obtain ⟨p2, hp2⟩ : ∃ r, r = decide (src + o - i = src2) := ⟨_, rfl⟩
 have HG := ι (show goonB ⟨num, reel, src, i, o, n, d⟩ ⟨num2, reel2, src2, i2, o2, n2, d2⟩ = ((((r1 && s1) && s2) && p1) && p2) by rw [hr1, hs1, hs2, hp1, hp2]; rfl)
 have t1 : ((sB reel).toList == (sB reel2).toList) = r1 := by rw [str_eq, hr1]
 have t2 := fun w => (spd_run n d w).trans (by rw [← hs1])
 have t3 := fun w => (spd_run n2 d2 w).trans (by rw [← hs2])
 have t2' := spdg_run
 have t4 : (o == i2) = p1 := by rw [hp1]; rfl
 have t5 : (src + o - i == src2) = p2 := by rw [hp2]; rfl
 have t6 : IntKind.i64.wrap (src + o) = src + o := by rw [IntKind.wrap_i64]; omega
 have t7 : IntKind.i64.wrap (src + o - i) = src + o - i := by rw [IntKind.wrap_i64]; omega
 clear hr1 hs1 hs2 hp1 hp2
 rw [show Ct.v ⟨num, reel, src, i, o, n, d⟩ = .agg #[.int .i64 num, .string (sB reel), .int .i64 src, .int .i64 i, .int .i64 o, .int .i64 n, .int .i64 d] from rfl, show Ct.v ⟨num2, reel2, src2, i2, o2, n2, d2⟩ = .agg #[.int .i64 num2, .string (sB reel2), .int .i64 src2, .int .i64 i2, .int .i64 o2, .int .i64 n2, .int .i64 d2] from rfl]
 go_enter Tryz.func57, Tryz.ntmps57
 cases r1 with
 | false =>
  have H3 := ι (show goonB ⟨num, reel, src, i, o, n, d⟩ ⟨num2, reel2, src2, i2, o2, n2, d2⟩ = false by rw [HG.out]; simp)
  go_wp2_with fail
  go_ret
  refine ⟨by rw [H3.out]; rfl, ?_⟩
  exact ((Below.more' _ _).alloc (by simp) _).alloc (by simp; omega) _
 | true =>
  cases s1 with
  | false =>
   have H3 := ι (show goonB ⟨num, reel, src, i, o, n, d⟩ ⟨num2, reel2, src2, i2, o2, n2, d2⟩ = false by rw [HG.out]; simp)
   go_wp2_with fail
   go_ret
   refine ⟨by rw [H3.out]; rfl, ?_⟩
   exact ((Below.more' _ _).alloc (by simp) _).alloc (by simp; omega) _
  | true =>
   cases s2 with
   | false =>
    have H3 := ι (show goonB ⟨num, reel, src, i, o, n, d⟩ ⟨num2, reel2, src2, i2, o2, n2, d2⟩ = false by rw [HG.out]; simp)
    go_wp2_with fail
    go_ret
    refine ⟨by rw [H3.out]; rfl, ?_⟩
    exact ((Below.more' _ _).alloc (by simp) _).alloc (by simp; omega) _
   | true =>
    cases p1 with
    | false =>
     have H3 := ι (show goonB ⟨num, reel, src, i, o, n, d⟩ ⟨num2, reel2, src2, i2, o2, n2, d2⟩ = false by rw [HG.out]; simp)
     go_wp2_with fail
     go_ret
     refine ⟨by rw [H3.out]; rfl, ?_⟩
     exact ((Below.more' _ _).alloc (by simp) _).alloc (by simp; omega) _
    | true =>
     cases p2 with
     | false =>
      have H3 := ι (show goonB ⟨num, reel, src, i, o, n, d⟩ ⟨num2, reel2, src2, i2, o2, n2, d2⟩ = false by rw [HG.out]; simp)
      go_wp2_with fail
      go_ret
      refine ⟨by rw [H3.out]; rfl, ?_⟩
      exact ((Below.more' _ _).alloc (by simp) _).alloc (by simp; omega) _
     | true =>
      have H3 := ι (show goonB ⟨num, reel, src, i, o, n, d⟩ ⟨num2, reel2, src2, i2, o2, n2, d2⟩ = true by rw [HG.out]; simp)
      go_wp2_with fail
      go_ret
      refine ⟨by rw [H3.out]; rfl, ?_⟩
      exact ((Below.more' _ _).alloc (by simp) _).alloc (by simp; omega) _
def PhiJoY (X g m n cap : Nat) (x z : Ct) (pk gb : Bool) : Nat → Value → Prop
 | 25, v => v = .int .i64 (m : Int)
 | 26, v => v = .bool (pk)
 | 27, v => v = .bool (pk)
 | 28, v => (pk = true → v = .slice (some ⟨g, 0, none⟩) n cap) ∧ (¬ (pk = true) → v = undef)
 | 29, v => (pk = true → v = .int .i64 (m : Int)) ∧ (¬ (pk = true) → v = undef)
 | 30, v => (pk = true → v = .pointer (some ⟨g, m * 7, none⟩)) ∧ (¬ (pk = true) → v = undef)
 | 31, v => (pk = true → v = .agg #[.int .i64 z.num, .string (sB z.reel), .int .i64 z.src, .int .i64 z.i, .int .i64 z.o, .int .i64 z.sn, .int .i64 z.sd]) ∧ (¬ (pk = true) → v = undef)
 | 32, v => (pk = true → v = .agg #[.int .i64 x.num, .string (sB x.reel), .int .i64 x.src, .int .i64 x.i, .int .i64 x.o, .int .i64 x.sn, .int .i64 x.sd]) ∧ (¬ (pk = true) → v = undef)
 | 33, v => (pk = true → v = .bool (gb)) ∧ (¬ (pk = true) → v = undef)
 | 34, v => v = .bool (pk && gb)
 | _, _ => True
def PhiJo (X g m n cap : Nat) (x z : Ct) (pk gb : Bool) (sl : Nat) (v : Value) (w : World) : Prop := PhiJoY X g m n cap x z pk gb sl v
theorem infoCt : (Tryz.prog.info? 33).map (fun i => (i.zero, i.size, i.bytes)) = some (some (.agg #[.int .i64 0, .string ⟨#[]⟩, .int .i64 0, .int .i64 0, .int .i64 0, .int .i64 0, .int .i64 0]), 7, 64) := by kernel_rfl
theorem ct_len (x : Ct) : (Ct.cs x).length = 7 := rfl
theorem ct_set4 (a : Int) : ∀ (L M : List Ct) (x : Ct), ((L ++ x :: M).flatMap Ct.cs).set (L.length * 7 + 4) (.int .i64 a) = (L ++ (⟨x.num, x.reel, x.src, x.i, a, x.sn, x.sd⟩ : Ct) :: M).flatMap Ct.cs
 | [], M, x => rfl
 | y :: r, M, x => by
  have ih := ct_set4 a r M x
  rw [List.cons_append, List.flatMap_cons, List.cons_append, List.flatMap_cons, ← ih, List.length_cons, List.set_append_right _ _ (by rw [ct_len]; omega), ct_len]
  congr 2
  omega
theorem jn_good {l : List Ct} (h : ∀ x ∈ l, CutG x) : ∀ (k : Nat) (z : Ct), z ∈ jnF l k → 0 ≤ z.i ∧ z.i < z.o ∧ z.o ≤ 5184000 ∧ 0 ≤ z.src ∧ z.src < 5184000 := by
 intro k
 induction k with
 | zero => intro z hz; simp [jnF, jnR] at hz
 | succ k ih =>
  intro z hz
  cases hx : l[k]? with
  | none =>
   refine ih z ?_
   unfold jnF jnR at *
   rwa [List.take_add_one, hx, Option.toList_none, List.append_nil] at hz
  | some x =>
   have gx := h x (List.mem_of_getElem? hx)
   rcases jnF_cases l k with h0 | ⟨M, y, h0⟩
   ·rw [jnF_nil hx h0] at hz
    rcases List.mem_singleton.1 hz with rfl
    exact ⟨gx.i0, gx.io, gx.o1, gx.s0, gx.s1⟩
   rw [jnF_more hx h0] at hz
   have hy := ih y (by rw [h0]; simp)
   split at hz
   ·rename_i hg
    unfold goonB at hg
    simp only [Bool.and_eq_true, decide_eq_true_eq] at hg
    rcases List.mem_append.1 hz with hz | hz
    ·exact ih z (by rw [h0]; exact List.mem_append_left _ hz)
    rcases List.mem_singleton.1 hz with rfl
    have := gx.io
    have := gx.o1
    refine ⟨hy.1, ?_, gx.o1, hy.2.2.2.1, hy.2.2.2.2⟩
    show y.i < x.o
    omega
   rcases List.mem_append.1 hz with hz | hz
   ·exact ih z (by rw [h0]; exact hz)
   rcases List.mem_singleton.1 hz with rfl
   exact ⟨gx.i0, gx.io, gx.o1, gx.s0, gx.s1⟩
theorem ownc_form {w : World} {base : Nat} {v : Value} {n : Nat} {xs : List Value} (h : w.ownsRow base 33 7 v n xs) : ∃ A c, v = .slice A n c := by
 obtain ⟨A, c, e, _⟩ := row_of_ownK h
 exact ⟨A, c, e⟩
theorem join_any (d : Lst) (c : Value) (w : World) (hd : CutsAt w c d.cuts) (ho : LsOk d) (hw : Wt w) (h0 : lstE d = 0) :
  Calls Tryz.prog 29 #[d.v c] w fun e w' => (∃ v, e = .returned (.tuple #[d.v v, .int .i64 0]) ∧ w'.ownsRow w.heap.size 33 7 v (jnC d.cuts).length ((jnC d.cuts).flatMap Ct.cs)) ∧ Below w.heap.size w w' := by
 have HW := ι hw
 have HC := ι hd
 have HO := ι ho
 have hl := ho.cutl
 obtain ⟨A, cp, rfl⟩ := hd.form
 have HK := ι (fun W (hb : Below w.heap.size w W) => lcheck_any d _ W (HC.out.ext (Flat.stays _) hb) HO.out (HW.out.on hb))
 rw [h0] at HK
 have HG := ι (lst_ok h0).1
 have hl64 := (lst_ok h0).2
 clear hw hd ho h0
 obtain ⟨i0, hi, hz0, hz1, hz2⟩ := info_parts infoCt
 have HI0 := ι (And.intro hi (And.intro hz0 (And.intro hz1 hz2)))
 clear hi hz0 hz1 hz2
 have ev : ∀ v, d.v v = .agg #[.string (sB d.title), .int .u8 d.rate, .bool d.drop, v] := fun _ => rfl
 have HEV := ι ev
 rw [ev] at HK ⊢
 clear ev
 obtain ⟨G, hG⟩ : ∃ G, G = w.heap.size := ⟨_, rfl⟩
 go_enter Tryz.func29, Tryz.ntmps29
 go_wp2_with fail
 rw [← hG]
 generalize hw1 : World.alloc (World.alloc w _) _ = w1
 have F1 := ι (show Held w1 G (d.cs (.slice A d.cuts.length cp)) by subst hw1; exact (Held.new hG).alloc _)
 have R1 := ι (show Held w1 (G + 1) [.string ⟨#[]⟩, .int .u8 0, .bool false, .slice none 0 0] by subst hw1; exact Held.new (by simp [hG]))
 have B1 := ι (show Below w.heap.size w w1 by subst hw1; exact (Below.more' _ _).alloc (by simp) _)
 have HGe := ι hG
 clear hw1 hG
 refine (HK.out w1 B1.out).mono ?_
 rintro e w2 ⟨rfl, hb⟩
 have B2 := ι (B1.out.trans (hb.mono B1.out.size))
 have F2 := ι (F1.out.ext hb)
 have R2 := ι (R1.out.ext hb)
 clear hb F1 R1 B1 HK
 have fq := F2.out.cell
 have hG2 := F2.out.lt
 unfold Lst.cs at fq
 go_wp2_with fail
 clear fq
 obtain ⟨E, hE⟩ : ∃ E, E = w2.heap.size := ⟨_, rfl⟩
 have HE := ι hE
 have hGE : G + 1 < E := by have := R2.out.lt; omega
 have hWE := ι (show w.heap.size ≤ E by have := B2.out.size; omega)
 clear hE
 go_loopw [5, 18] (fun ov i wr => ∃ (k : Nat) (uv : Value), uv = ov ∧ k ≤ d.cuts.length ∧ i = .int .i64 k ∧ Hid (wr.ownsRow E 33 7 uv (jnF d.cuts k).length ((jnF d.cuts k).flatMap Ct.cs)) ∧ Hid (Below E w2 wr)) (fun _ i _ => d.cuts.length - (intOf i).toNat)
 case atStart => exact ⟨0, _, rfl, Nat.zero_le _, rfl, ι (World.ownsRow_nil _ _ _ _), ι (Below.refl _ _)⟩
 case round =>
 obtain ⟨k, uv, rfl, hk, rfl, HOW, BR⟩ := hrel
 have hEw : E ≤ wr.heap.size := by have := BR.out.size; have := HE.out; omega
 have BW := ι (show Below w.heap.size w wr from B2.out.trans (BR.out.mono hWE.out))
 by_cases hlt : k < d.cuts.length
 ·have hlt2 : (k : Int) < (d.cuts.length : Int) := by omega
  obtain ⟨x, hx⟩ : ∃ x, d.cuts[k]? = some x := ⟨_, List.getElem?_eq_getElem hlt⟩
  have HXK := ι hx
  have HX := ι (HG.out.cut x (List.mem_of_getElem? hx))
  obtain ⟨b, o, rfl, q0, q1, q2, q3, q4, q5, q6⟩ := CutsAt.get (HC.out.ext (Flat.stays _) BW.out) hx
  have hbr : b < wr.heap.size := World.block_lt_of_cell? wr _ q0
  have hml : (jnF d.cuts k).length ≤ 64 := by have := jnF_len d.cuts k; omega
  clear hx
  rcases jnF_cases d.cuts k with hj | ⟨M, z, hj⟩
  ·have HNX := ι (jnF_nil HXK.out hj)
   rw [hj] at HOW
   obtain ⟨A3, c3, e3⟩ := ownc_form HOW.out
   rw [show ([] : List Ct).length = 0 from rfl] at e3
   subst e3
   clear hj hml
   go_wp2_with fail
   generalize hw4 : World.alloc wr _ = w4
   obtain ⟨X, hX⟩ : ∃ X, X = wr.heap.size := ⟨_, rfl⟩
   rw [← hX]
   have F4 := ι (show Held w4 X x.cs by subst hw4; exact Held.new hX)
   have HO4 := ι (show w4.ownsRow E 33 7 (.slice A3 0 c3) 0 [] by subst hw4; exact HOW.out.alloc _)
   have G4 := ι (show Below E w2 w4 by subst hw4; exact BR.out.alloc hEw _)
   clear hw4 hX q0 q1 q2 q3 q4 q5 q6 HOW BR BW
   go_quiet (fail)
   have HO5 := ι (show (w4.drewN nq).ownsRow E 33 7 (.slice A3 0 c3) 0 [] from HO4.out)
   have G5 := ι (below_drewN G4.out nq)
   have F5 := ι (F4.out.drewN nq)
   generalize w4.drewN nq = w5 at *
   have hs5 : E ≤ w5.heap.size := by have := G5.out.size; have := HE.out; omega
   clear HO4 G4 F4
   have fq := F5.out.cell
   have hX5 := F5.out.lt
   unfold Ct.cs at fq
   have zc := CellsAt.of_all (w := w5) (g := X) (k := 0) (l := x.cs) (fun j u hu => by rw [Addr.add_lit, Nat.zero_add, F5.out.cell]; exact hu)
   go_wp2_with (at_builtin; go_loud (refine wpList_append_own _ rfl _ _ 24 rfl E 33 i0 (.agg #[.int .i64 0, .string ⟨#[]⟩, .int .i64 0, .int .i64 0, .int .i64 0, .int .i64 0, .int .i64 0]) 7 64 Tryz.underlying24 HI0.out.1 HI0.out.2.1 HI0.out.2.2.1 HI0.out.2.2.2 rfl (by decide) _ 0 [] rfl (HO5.out.alloc _) ⟨w5.heap.size, 0, none⟩ 1 1 x.cs rfl rfl (CellsAt.all (by simp [CellsAt, go_sem, Ct.cs])) (by simp [Value.oneCell', Ct.cs]) (by simp only [maxLen]; omega) (by omega) (by simp; omega) ?_))
   intro v6 w6 ho hgr hat
   have G6 := ι (show Below E w2 w6 from (G5.out.alloc hs5 _).grown hgr (by simp; omega) (own_base HO5.out))
   have HO6 := ι (show w6.ownsRow E 33 7 v6 (jnF d.cuts (k + 1)).length ((jnF d.cuts (k + 1)).flatMap Ct.cs) by rw [HNX.out]; simpa using ho)
   clear ho hgr hat HO5 G5 fq F5 zc
   go_wp2_with fail
   go_roundw
   case rel => exact ⟨k + 1, _, rfl, by omega, by go_num, HO6, G6⟩
   case measure => simp [intOf]; omega
  have HNX := ι (jnF_more HXK.out hj)
  have hzg := jn_good HG.out.cut k z (by rw [hj]; simp)
  obtain ⟨gb, hgb⟩ : ∃ r, r = goonB z x := ⟨_, rfl⟩
  have HGO := ι (show ∀ W, Calls Tryz.prog 57 #[.agg #[.int .i64 z.num, .string (sB z.reel), .int .i64 z.src, .int .i64 z.i, .int .i64 z.o, .int .i64 z.sn, .int .i64 z.sd], .agg #[.int .i64 x.num, .string (sB x.reel), .int .i64 x.src, .int .i64 x.i, .int .i64 x.o, .int .i64 x.sn, .int .i64 x.sd]] W fun e w' => e = .returned (.bool gb) ∧ Below W.heap.size W w' from fun W => by
   rw [hgb]
   exact goon_any' z x W hzg)
  rw [← hgb] at HNX
  have HMl := ι (show M.length + 1 ≤ 64 by rw [hj, List.length_append] at hml; exact hml)
  obtain ⟨n, hn⟩ : ∃ n, n = M.length + 1 := ⟨_, rfl⟩
  obtain ⟨m, hm⟩ : ∃ m, m = M.length := ⟨_, rfl⟩
  rw [hj, List.length_append, show M.length + [z].length = n by rw [hn]; rfl] at HOW
  obtain ⟨g, cap, e3⟩ : ∃ g cap, uv = .slice (some ⟨g, 0, none⟩) n cap := by
   have := HOW.out
   rw [hn] at this
   obtain ⟨g, cap, e⟩ := ownsRow_succ this
   exact ⟨g, cap, by rw [hn]; exact e⟩
  subst e3
  have HNE := ι hn
  have HM := ι hm
  have hn2 : IntKind.i64.wrap ((n : Int) - 1) = (m : Int) := by have := HMl.out; rw [IntKind.wrap_i64]; omega
  have HND := ι (show m < n ∧ n ≤ 64 by have := HMl.out; omega)
  clear hj hml hgb hzg hn hm
  go_wp2_with fail
  generalize hw5 : World.alloc wr _ = w5
  obtain ⟨X, hX⟩ : ∃ X, X = wr.heap.size := ⟨_, rfl⟩
  rw [← hX]
  have F5 := ι (show Held w5 X x.cs by subst hw5; exact Held.new hX)
  have HO5 := ι (show w5.ownsRow E 33 7 (.slice (some ⟨g, 0, none⟩) n cap) n ((M ++ [z]).flatMap Ct.cs) by subst hw5; exact HOW.out.alloc _)
  have B5 := ι (show Below E w2 w5 by subst hw5; exact BR.out.alloc hEw _)
  clear hw5 hX q0 q1 q2 q3 q4 q5 q6 HOW BR BW
  obtain ⟨N, hN⟩ : ∃ N, N = w5.heap.size := ⟨_, rfl⟩
  have HN := ι hN
  have hXN : X < N := by have := F5.out.lt; omega
  have hEN := ι (show E ≤ N by have := B5.out.size; have := HE.out; omega)
  have HSZ := ι (show ∀ w', Below N w5 w' → N ≤ w'.heap.size from fun w' h => by have := h.size; omega)
  have zz : ∀ j u, z.cs[j]? = some u → w5.cell? ⟨g, m * 7 + j, none⟩ = some u := fun j u hu => by
   have hj : j < 7 := (List.getElem?_eq_some_iff.1 hu).1
   have := HO5.out.cells (g := g) rfl (m * 7 + j) u (by rw [flat_get ct_len (k := m) (x := z) (by rw [HM.out]; simp) hj]; exact hu)
   rwa [Addr.add_lit, Nat.zero_add] at this
  have z0 := zz 0 _ rfl
  have z1 := zz 1 _ rfl
  have z2 := zz 2 _ rfl
  have z3 := zz 3 _ rfl
  have z4 := zz 4 _ rfl
  have z5 := zz 5 _ rfl
  have z6 := zz 6 _ rfl
  rw [Nat.add_zero] at z0
  have hgN : g < N := by have := World.block_lt_of_cell? w5 _ z0; have h : g < w5.heap.size := this; omega
  clear hN zz
  have e0 : w5.cell? ⟨X, 0, none⟩ = some (.int .i64 x.num) := F5.out.cell 0
  have e1 : w5.cell? ⟨X, 1, none⟩ = some (.string (sB x.reel)) := F5.out.cell 1
  have e2 : w5.cell? ⟨X, 2, none⟩ = some (.int .i64 x.src) := F5.out.cell 2
  have e3 : w5.cell? ⟨X, 3, none⟩ = some (.int .i64 x.i) := F5.out.cell 3
  have e4 : w5.cell? ⟨X, 4, none⟩ = some (.int .i64 x.o) := F5.out.cell 4
  have e5 : w5.cell? ⟨X, 5, none⟩ = some (.int .i64 x.sn) := F5.out.cell 5
  have e6 : w5.cell? ⟨X, 6, none⟩ = some (.int .i64 x.sd) := F5.out.cell 6
  obtain ⟨pk, hpk⟩ : ∃ b, b = true := ⟨_, rfl⟩
  have hpk1 : true = pk := hpk.symm
  have HPK := ι hpk
  have m4 : (m : Int) < (n : Int) := by have := HND.out.1; omega
  have m4' : m < n := HND.out.1
  clear hpk
  refine wp_region_spec (by kernel_rfl) (fun w' => Below N w5 w') (PhiJo X g m n cap x z pk gb) 51 rfl (by kernel_rfl) (Below.refl _ _).drew ?hops ?hend
  case hops =>
   refine ⟨?o0, ?o1, ?o2, ?o3, ?o4, ?o5, ?o6, ?o7, ?o8, ?o9, trivial⟩
   case o0 =>
    intro ev w8 hI δ φ
    have a8 : ev 8 = .int .i64 (m : Int) := φ 8 (by kernel_rfl)
    clear δ φ
    try dsimp only
    simp [OpRuns, execOp, evalOf, a8, go_sem]
    exact ⟨hI, rfl⟩
   case o1 =>
    intro ev w8 hI δ φ
    have a25 : ev 25 = .int .i64 (m : Int) := δ 0 25 (by kernel_rfl) rfl
    clear δ φ
    try dsimp only
    simp [OpRuns, execOp, evalOf, a25, go_sem]
    exact ⟨hI, congrArg Value.bool hpk1⟩
   case o2 =>
    intro ev w8 hI δ φ
    have a26 : ev 26 = .bool (pk) := δ 1 26 (by kernel_rfl) rfl
    clear δ φ
    try dsimp only
    simp [OpRuns, execOp, evalOf, a26, go_sem]
    exact ⟨hI, rfl⟩
   case o3 =>
    intro ev w8 hI δ φ
    have ag : ev 27 = .bool pk := δ 2 27 (by kernel_rfl) rfl
    refine γ ag rfl (fun hR => ?_) fun hn d hd => by cases hd; exact ⟨fun hr => absurd hr hn, fun _ => rfl⟩
    clear ag
    have a5 : ev 5 = .slice (some ⟨g, 0, none⟩) n cap := φ 5 (by kernel_rfl)
    clear δ φ
    try dsimp only
    simp [OpRuns, execOp, evalOf, a5, go_sem]
    exact ⟨hI, ⟨fun _ => rfl, fun h => absurd hR h⟩⟩
   case o4 =>
    intro ev w8 hI δ φ
    have ag : ev 27 = .bool pk := δ 2 27 (by kernel_rfl) rfl
    refine γ ag rfl (fun hR => ?_) fun hn d hd => by cases hd; exact ⟨fun hr => absurd hr hn, fun _ => rfl⟩
    clear ag
    have a8 : ev 8 = .int .i64 (m : Int) := φ 8 (by kernel_rfl)
    clear δ φ
    try dsimp only
    simp [OpRuns, execOp, evalOf, a8, go_sem]
    exact ⟨hI, ⟨fun _ => rfl, fun h => absurd hR h⟩⟩
   case o5 =>
    intro ev w8 hI δ φ
    have ag : ev 27 = .bool pk := δ 2 27 (by kernel_rfl) rfl
    refine γ ag rfl (fun hR => ?_) fun hn d hd => by cases hd; exact ⟨fun hr => absurd hr hn, fun _ => rfl⟩
    clear ag
    have a28 : ev 28 = .slice (some ⟨g, 0, none⟩) n cap := (δ 3 28 (by kernel_rfl) rfl).1 hR
    have a29 : ev 29 = .int .i64 (m : Int) := (δ 4 29 (by kernel_rfl) rfl).1 hR
    clear δ φ
    try dsimp only
    simp [OpRuns, execOp, evalOf, a28, a29, m4, m4', go_sem]
    exact ⟨hI, ⟨fun _ => rfl, fun h => absurd hR h⟩⟩
   case o6 =>
    intro ev w8 hI δ φ
    have ag : ev 27 = .bool pk := δ 2 27 (by kernel_rfl) rfl
    refine γ ag rfl (fun hR => ?_) fun hn d hd => by cases hd; exact ⟨fun hr => absurd hr hn, fun _ => rfl⟩
    clear ag
    have a30 : ev 30 = .pointer (some ⟨g, m * 7, none⟩) := (δ 5 30 (by kernel_rfl) rfl).1 hR
    have y0 : w8.cell? ⟨g, m * 7, none⟩ = some (.int .i64 z.num) := (hI.cell (p := ⟨g, m * 7, none⟩) hgN).trans z0
    have y1 : w8.cell? ⟨g, m * 7 + 1, none⟩ = some (.string (sB z.reel)) := (hI.cell (p := ⟨g, m * 7 + 1, none⟩) hgN).trans z1
    have y2 : w8.cell? ⟨g, m * 7 + 2, none⟩ = some (.int .i64 z.src) := (hI.cell (p := ⟨g, m * 7 + 2, none⟩) hgN).trans z2
    have y3 : w8.cell? ⟨g, m * 7 + 3, none⟩ = some (.int .i64 z.i) := (hI.cell (p := ⟨g, m * 7 + 3, none⟩) hgN).trans z3
    have y4 : w8.cell? ⟨g, m * 7 + 4, none⟩ = some (.int .i64 z.o) := (hI.cell (p := ⟨g, m * 7 + 4, none⟩) hgN).trans z4
    have y5 : w8.cell? ⟨g, m * 7 + 5, none⟩ = some (.int .i64 z.sn) := (hI.cell (p := ⟨g, m * 7 + 5, none⟩) hgN).trans z5
    have y6 : w8.cell? ⟨g, m * 7 + 6, none⟩ = some (.int .i64 z.sd) := (hI.cell (p := ⟨g, m * 7 + 6, none⟩) hgN).trans z6
    clear δ φ
    try dsimp only
    simp [OpRuns, execOp, evalOf, a30, y0, y1, y2, y3, y4, y5, y6, go_sem]
    exact ⟨hI, ⟨fun _ => rfl, fun h => absurd hR h⟩⟩
   case o7 =>
    intro ev w8 hI δ φ
    have ag : ev 27 = .bool pk := δ 2 27 (by kernel_rfl) rfl
    refine γ ag rfl (fun hR => ?_) fun hn d hd => by cases hd; exact ⟨fun hr => absurd hr hn, fun _ => rfl⟩
    clear ag
    have a7 : ev 7 = .pointer (some ⟨X, 0, none⟩) := φ 7 (by kernel_rfl)
    have y0 : w8.cell? ⟨X, 0, none⟩ = some (.int .i64 x.num) := (hI.cell (p := ⟨X, 0, none⟩) hXN).trans e0
    have y1 : w8.cell? ⟨X, 1, none⟩ = some (.string (sB x.reel)) := (hI.cell (p := ⟨X, 1, none⟩) hXN).trans e1
    have y2 : w8.cell? ⟨X, 2, none⟩ = some (.int .i64 x.src) := (hI.cell (p := ⟨X, 2, none⟩) hXN).trans e2
    have y3 : w8.cell? ⟨X, 3, none⟩ = some (.int .i64 x.i) := (hI.cell (p := ⟨X, 3, none⟩) hXN).trans e3
    have y4 : w8.cell? ⟨X, 4, none⟩ = some (.int .i64 x.o) := (hI.cell (p := ⟨X, 4, none⟩) hXN).trans e4
    have y5 : w8.cell? ⟨X, 5, none⟩ = some (.int .i64 x.sn) := (hI.cell (p := ⟨X, 5, none⟩) hXN).trans e5
    have y6 : w8.cell? ⟨X, 6, none⟩ = some (.int .i64 x.sd) := (hI.cell (p := ⟨X, 6, none⟩) hXN).trans e6
    clear δ φ
    try dsimp only
    simp [OpRuns, execOp, evalOf, a7, y0, y1, y2, y3, y4, y5, y6, go_sem]
    exact ⟨hI, ⟨fun _ => rfl, fun h => absurd hR h⟩⟩
   case o8 =>
    intro ev w8 hI δ φ
    have ag : ev 27 = .bool pk := δ 2 27 (by kernel_rfl) rfl
    refine γ ag rfl (fun hR => ?_) fun hn d hd => by cases hd; exact ⟨fun hr => absurd hr hn, fun _ => rfl⟩
    clear ag
    have a31 : ev 31 = .agg #[.int .i64 z.num, .string (sB z.reel), .int .i64 z.src, .int .i64 z.i, .int .i64 z.o, .int .i64 z.sn, .int .i64 z.sd] := (δ 6 31 (by kernel_rfl) rfl).1 hR
    have a32 : ev 32 = .agg #[.int .i64 x.num, .string (sB x.reel), .int .i64 x.src, .int .i64 x.i, .int .i64 x.o, .int .i64 x.sn, .int .i64 x.sd] := (δ 7 32 (by kernel_rfl) rfl).1 hR
    clear δ φ
    try dsimp only
    refine runs_call (f := 57) (args := #[.agg #[.int .i64 z.num, .string (sB z.reel), .int .i64 z.src, .int .i64 z.i, .int .i64 z.o, .int .i64 z.sn, .int .i64 z.sd], .agg #[.int .i64 x.num, .string (sB x.reel), .int .i64 x.src, .int .i64 x.i, .int .i64 x.o, .int .i64 x.sn, .int .i64 x.sd]]) (by simp [execOp, evalOf, resolve, invoke, a31, a32, go_sem]) ((HGO.out w8).mono ?_)
    rintro e w9 ⟨he, hb⟩
    exact ⟨_, he, hI.trans (hb.mono (HSZ.out w8 hI)), fun s u h => h, fun d hd => by cases hd; exact ⟨fun _ => rfl, fun h => absurd hR h⟩⟩
   case o9 =>
   intro ev w8 hI δ φ
   have a27 : ev 27 = .bool (pk) := δ 2 27 (by kernel_rfl) rfl
   have ax : pk = true → ev 33 = .bool (gb) := fun hc => (δ 8 33 (by kernel_rfl) rfl).1 hc
   clear δ φ
   obtain ⟨cc, hcc⟩ : ∃ cc, cc = pk := ⟨_, rfl⟩
   rw [← hcc] at a27
   cases cc with
   | true =>
    have ax := ax hcc.symm
    have hv : (Value.bool (gb)) = (Value.bool (pk && gb)) := by rw [← hcc]; simp
    clear hcc
    try dsimp only
    simp [OpRuns, execOp, evalOf, a27, ax, go_sem]
    exact ⟨hI, hv⟩
   | false =>
    clear ax
    have hv : Value.bool false = (Value.bool (pk && gb)) := by rw [← hcc]; simp
    clear hcc
    try dsimp only
    simp [OpRuns, execOp, evalOf, a27, go_sem]
    exact ⟨hI, hv⟩
  case hend =>
  intro a w6 hdf hsz hI hPhi κ
  replace hdf : a.defers = [] := hdf
  replace hsz : a.tmps.size = 51 := hsz
  have x34 : a.tmps.getD 34 undef = .bool (pk && gb) := hPhi 9 34 (by kernel_rfl)
  have x0 := κA κ 0 (Value.agg #[Value.string (sB d.title), Value.int IntKind.u8 d.rate, Value.bool d.drop, Value.slice (some { block := b, off := o }) d.cuts.length cp]) rfl rfl
  have x1 := κA κ 1 (Value.pointer (some { block := G, off := 0 })) rfl rfl
  have x2 := κA κ 2 (Value.pointer (some { block := G + 1, off := 0 })) rfl rfl
  have x3 := κA κ 3 (Value.int IntKind.i64 0) rfl rfl
  have x4 := κA κ 4 (Value.int IntKind.i64 0) rfl rfl
  have x5 := κA κ 5 (Value.slice (some { block := g, off := 0 }) n cap) rfl rfl
  have x6 := κA κ 6 (undef) rfl rfl
  have x7 := κA κ 7 (Value.pointer (some { block := X, off := 0 })) rfl rfl
  have x8 := κA κ 8 (Value.int IntKind.i64 (↑m : Int)) rfl rfl
  have x9 := κA κ 9 (Value.agg #[Value.string (sB d.title), Value.int IntKind.u8 d.rate, Value.bool d.drop, Value.slice (some { block := b, off := o }) d.cuts.length cp]) rfl rfl
  have x10 := κA κ 10 (Value.int IntKind.i64 0) rfl rfl
  have x11 := κA κ 11 (Value.int IntKind.i64 0) rfl rfl
  have x12 := κA κ 12 (Value.bool false) rfl rfl
  have x13 := κA κ 13 (undef) rfl rfl
  have x14 := κA κ 14 (undef) rfl rfl
  have x15 := κA κ 15 (Value.pointer (some { block := G, off := 3 })) rfl rfl
  have x16 := κA κ 16 (Value.slice (some { block := b, off := o }) d.cuts.length cp) rfl rfl
  have x17 := κA κ 17 (Value.int IntKind.i64 (↑d.cuts.length : Int)) rfl rfl
  have x18 := κA κ 18 (Value.int IntKind.i64 (↑k : Int)) rfl rfl
  have x19 := κA κ 19 (Value.bool true) rfl rfl
  have x20 := κA κ 20 (Value.pointer (some { block := b, off := o + k * 7 })) rfl rfl
  have x21 := κA κ 21 (Value.agg #[Value.int IntKind.i64 x.num, Value.string (sB x.reel), Value.int IntKind.i64 x.src, Value.int IntKind.i64 x.i, Value.int IntKind.i64 x.o, Value.int IntKind.i64 x.sn, Value.int IntKind.i64 x.sd]) rfl rfl
  have x22 := κA κ 22 (Value.slice (some { block := g, off := 0 }) n cap) rfl rfl
  have x23 := κA κ 23 (Value.int IntKind.i64 (↑n : Int)) rfl rfl
  have x24 := κA κ 24 (Value.int IntKind.i64 (↑m : Int)) rfl rfl
  have x35 := κA κ 35 (u35) rfl rfl
  have x36 := κA κ 36 (u36) rfl rfl
  have x37 := κA κ 37 (u37) rfl rfl
  have x38 := κA κ 38 (u38) rfl rfl
  have x39 := κA κ 39 (u39) rfl rfl
  have x40 := κA κ 40 (u40) rfl rfl
  have x41 := κA κ 41 (u41) rfl rfl
  have x42 := κA κ 42 (u42) rfl rfl
  have x43 := κA κ 43 (u43) rfl rfl
  have x44 := κA κ 44 (u44) rfl rfl
  have x45 := κA κ 45 (u45) rfl rfl
  have x46 := κA κ 46 (u46) rfl rfl
  have x47 := κA κ 47 (u47) rfl rfl
  have x48 := κA κ 48 (undef) rfl rfl
  have x49 := κA κ 49 (undef) rfl rfl
  have x50 := κA κ 50 (undef) rfl rfl
  have ea := act_lit hsz hdf
  simp only [getDs] at ea
  rw [x34, x0, x1, x2, x3, x4, x5, x6, x7, x8, x9, x10, x11, x12, x13, x14, x15, x16, x17, x18, x19, x20, x21, x22, x23, x24, x35, x36, x37, x38, x39, x40, x41, x42, x43, x44, x45, x46, x47, x48, x49, x50] at ea
  rw [ea]
  clear ea x34 x0 x1 x2 x3 x4 x5 x6 x7 x8 x9 x10 x11 x12 x13 x14 x15 x16 x17 x18 x19 x20 x21 x22 x23 x24 x35 x36 x37 x38 x39 x40 x41 x42 x43 x44 x45 x46 x47 x48 x49 x50 hPhi κ hdf hsz
  generalize a.tmps.getD 25 undef = u25, a.tmps.getD 26 undef = u26, a.tmps.getD 27 undef = u27, a.tmps.getD 28 undef = u28, a.tmps.getD 29 undef = u29, a.tmps.getD 30 undef = u30, a.tmps.getD 31 undef = u31, a.tmps.getD 32 undef = u32, a.tmps.getD 33 undef = u33
  clear a
  have B6 := ι (show Below E w2 w6 from B5.out.trans (hI.mono hEN.out))
  have HO6 := ι (own_ext HO5.out (HN.out ▸ hI))
  have F6 := ι (F5.out.below hI hXN)
  clear e0 e1 e2 e3 e4 e5 e6 z0 z1 z2 z3 z4 z5 z6 hXN hgN hI B5 F5 HO5 hpk1 HSZ HN
  have hs6 : E ≤ w6.heap.size := by have := B6.out.size; have := HE.out; omega
  obtain rfl := HPK.out
  have fq := F6.out.cell
  have hX6 := F6.out.lt
  unfold Ct.cs at fq
  cases gb with
  | true =>
   have HNX2 := ι (show jnF d.cuts (k + 1) = M ++ [⟨z.num, z.reel, z.src, z.i, x.o, z.sn, z.sd⟩] by rw [HNX.out, if_pos rfl])
   have y4 : w6.cell? ⟨g, m * 7 + 4, none⟩ = some (.int .i64 z.o) := by
    have := HO6.out.cells (g := g) rfl (m * 7 + 4) (.int .i64 z.o) (by rw [flat_get ct_len (k := m) (x := z) (by rw [HM.out]; simp) (by decide)]; rfl)
    rwa [Addr.add_lit, Nat.zero_add] at this
   have yf := own_free HO6.out (m * 7 + 4)
   have hg6 : g < w6.heap.size := World.block_lt_of_cell? w6 _ y4
   clear HNX
   go_wp2_with fail
   clear y4 yf
   generalize hw7 : World.setCell _ _ _ = w7
   have HO7 := ι (show w7.ownsRow E 33 7 (.slice (some ⟨g, 0, none⟩) n cap) (jnF d.cuts (k + 1)).length ((jnF d.cuts (k + 1)).flatMap Ct.cs) by
    subst hw7
    have := own_cell HO6.out (m * 7 + 4) (.int .i64 x.o) (by rw [flat_len ct_len]; simp; have := HM.out; omega)
    rw [HM.out, ct_set4] at this
    rw [HNX2.out, show (M ++ [(⟨z.num, z.reel, z.src, z.i, x.o, z.sn, z.sd⟩ : Ct)]).length = n by rw [HNE.out]; simp, HM.out]
    exact this)
   have G7 := ι (show Below E w2 w7 by subst hw7; exact B6.out.setCell (p := ⟨g, m * 7 + 4, none⟩) (own_base HO6.out g rfl) _)
   clear hw7
   go_roundw
   case rel => exact ⟨k + 1, _, rfl, by omega, by go_num, HO7, G7⟩
   case measure => simp [intOf]; omega
  | false =>
   have HNX2 := ι (show jnF d.cuts (k + 1) = (M ++ [z]) ++ [x] by rw [HNX.out, if_neg (by decide)])
   have hn64 := HND.out.2
   clear HNX
   go_wp2_with (at_builtin; go_loud (refine wpList_append_own _ rfl _ _ 24 rfl E 33 i0 (.agg #[.int .i64 0, .string ⟨#[]⟩, .int .i64 0, .int .i64 0, .int .i64 0, .int .i64 0, .int .i64 0]) 7 64 Tryz.underlying24 HI0.out.1 HI0.out.2.1 HI0.out.2.2.1 HI0.out.2.2.2 rfl (by decide) _ n _ rfl (HO6.out.alloc _) ⟨w6.heap.size, 0, none⟩ 1 1 x.cs rfl rfl (CellsAt.all (by simp [CellsAt, go_sem, Ct.cs])) (by simp [Value.oneCell', Ct.cs]) (by simp only [maxLen]; omega) (by omega) (by simp; omega) ?_))
   intro v7 w7 ho hgr hat
   have G7 := ι (show Below E w2 w7 from (B6.out.alloc hs6 _).grown hgr (by simp; omega) (own_base HO6.out))
   have HO7 := ι (show w7.ownsRow E 33 7 v7 (jnF d.cuts (k + 1)).length ((jnF d.cuts (k + 1)).flatMap Ct.cs) by
    rw [HNX2.out, List.flatMap_append, show ((M ++ [z]) ++ [x]).length = n + 1 by rw [HNE.out]; simp]
    simpa using ho)
   clear ho hgr hat
   go_wp2_with fail
   go_roundw
   case rel => exact ⟨k + 1, _, rfl, by omega, by go_num, HO7, G7⟩
   case measure => simp [intOf]; omega
 obtain rfl : k = d.cuts.length := by omega
 rw [jnF_all] at HOW
 have FR := ι (F2.out.below BR.out (by omega))
 have RR := ι (R2.out.below BR.out hGE)
 obtain ⟨A3, c3, e3⟩ := ownc_form HOW.out
 subst e3
 have fq := FR.out.cell
 have fy := FR.out.free
 have rq := RR.out.cell
 have ry := RR.out.free
 have hG3 := FR.out.lt
 have hR3 := RR.out.lt
 unfold Lst.cs at fq
 clear hlt
 go_wp2_with (with_reducible refine stop_at ?_)
 unfold StopAt
 clear fq fy rq ry
 generalize hw3 : World.setCell _ _ _ = w3
 have H3 := ι (show Held w3 (G + 1) (d.cs (.slice A3 (jnC d.cuts).length c3)) by subst hw3; exact (RR.out.other (by omega) 3 _).all (d.cs (.slice A3 (jnC d.cuts).length c3)) rfl)
 have B3 := ι (show Below w.heap.size w w3 by subst hw3; exact Below.all (by have := HGe.out; omega) (d.cs (.slice A3 (jnC d.cuts).length c3)) 0 (BW.out.setCell (p := ⟨G, 3, none⟩) (Nat.le_of_eq HGe.out.symm) _))
 have HO3 := ι (show w3.ownsRow E 33 7 (.slice A3 (jnC d.cuts).length c3) (jnC d.cuts).length ((jnC d.cuts).flatMap Ct.cs) by
  subst hw3
  exact own_far (fun e => by have := own_base HOW.out _ e; omega) (d.cs (.slice A3 (jnC d.cuts).length c3)) 0 (own_put HOW.out (fun e => by have := own_base HOW.out _ e; omega) 3 _))
 have fr := H3.out.cell
 unfold Lst.cs at fr
 refine bodyPost_ret (by simp [results, Tryz.results29, fr, go_sem]; try rfl) rfl ?_
 exact ⟨⟨_, rfl, ownsRow_mono HO3.out hWE.out⟩, B3.out⟩
end Go.Proofs.YtmopjhbfobmklaaGreatDoor
