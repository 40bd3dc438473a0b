/-
  The contracts of Leases, told, Sessions and mine in the reference. Their conditions are their hypotheses.
-/
import Derived.Test.YtneiljaknmeagaaGreatDoorQf
import Derived.Test.YtneiljaknmeagaaGreatDoorQr
import Derived.Test.YtneiljaknmeagaaGreatDoorM6
namespace Go.Proofs.YtneiljaknmeagaaGreatDoor
open Go.RowKit Go.Joins
set_option linter.unusedVariables false
set_option linter.unusedSimpArgs false
/-- A row that can be read, and lies in none of the blocks N. -/
def RowN (N : Nat → Prop) (w : World) (A : Option Addr) (xs : List Value) : Prop := ∀ k u, xs[k]? = some u → ∃ b o, A = some ⟨b, o, none⟩ ∧ ¬ N b ∧ w.cell? ⟨b, o + k, none⟩ = some u
theorem RowN.row {N : Nat → Prop} {w : World} {A : Option Addr} {xs : List Value} (h : RowN N w A xs) : RowAt w A xs := fun k u hk => by
  obtain ⟨b, o, e, _, hc⟩ := h k u hk
  exact ⟨b, o, e, hc⟩
theorem RowN.of {N : Nat → Prop} {w : World} {A : Option Addr} {xs : List Value} (h : RowAt w A xs) (hN : ∀ b, N b → w.heap.size ≤ b) : RowN N w A xs := fun k u hk => by
  obtain ⟨b, o, e, hc⟩ := h k u hk
  exact ⟨b, o, e, fun hb => Nat.lt_irrefl _ (Nat.lt_of_lt_of_le (World.block_lt_of_cell? w _ hc) (hN b hb)), hc⟩
theorem RowN.mono {N N' : Nat → Prop} {w : World} {A : Option Addr} {xs : List Value} (h : RowN N w A xs) (hN : ∀ b, b < w.heap.size → N' b → N b) : RowN N' w A xs := fun k u hk => by
  obtain ⟨b, o, e, hn, hc⟩ := h k u hk
  exact ⟨b, o, e, fun hb => hn (hN b (World.block_lt_of_cell? w _ hc) hb), hc⟩
theorem RowN.ext {N : Nat → Prop} {w w' : World} {A : Option Addr} {xs : List Value} (h : RowN N w A xs) (hb : Below w.heap.size w w') : RowN N w' A xs := fun k u hk => by
  obtain ⟨b, o, e, hn, hc⟩ := h k u hk
  exact ⟨b, o, e, hn, (hb.cell (World.block_lt_of_cell? w _ hc)).trans hc⟩
theorem RowN.put {N : Nat → Prop} {w : World} {A : Option Addr} {xs : List Value} (h : RowN N w A xs) {g : Nat} (hg : N g) (i : Nat) (v : Value) : RowN N (w.setCell ⟨g, i, none⟩ v) A xs := fun k u hk => by
  obtain ⟨b, o, e, hn, hc⟩ := h k u hk
  refine ⟨b, o, e, hn, ?_⟩
  rw [← hc]
  unfold World.cell?
  rw [Below.heap_setCell w ⟨g, i, none⟩ v b (fun e => hn (by rw [e]; exact hg))]
theorem RowN.own {N : Nat → Prop} {w : World} {base : Nat} {e : TypeId} {size : Nat} {v : Value} {n : Nat} {xs : List Value} (h : w.ownsRow base e size v n xs) (hN : ∀ b, N b → b < base) : ∃ A c, v = .slice A n c ∧ RowN N w A xs ∧ n ≤ c ∧ c ≤ maxLen ∧ (A = none → c = 0) := by
  obtain ⟨A, c, rfl, h1, h2, h3, h4⟩ := row_of_ownK h
  refine ⟨A, c, rfl, fun k u hk => ?_, h2, h3, fun e => by
    rcases h.2 with ⟨h6, h7⟩ | ⟨g, cap, cur, h6, h7, _⟩
    · cases h6; rfl
    · rw [e] at h6; cases h6⟩
  obtain ⟨b, o, rfl, hc⟩ := h1 k u hk
  refine ⟨b, o, rfl, fun hb => ?_, hc⟩
  have h5 := hN b hb
  rcases h.2 with ⟨h6, h7⟩ | ⟨g, cap, cur, h6, h7, _⟩
  · cases h6
  · cases h6
    omega
/-- The reference's table, its rows in none of the blocks N. -/
def RefN (N : Nat → Prop) (T : Tb) (sv lv : Value) (w : World) : Prop := (∃ A c, sv = .slice A T.ses.length c ∧ RowN N w A (T.ses.map (Value.int .i64)) ∧ T.ses.length ≤ c ∧ c ≤ maxLen ∧ (A = none → c = 0)) ∧ ∃ A c, lv = .slice A T.lea.length c ∧ RowN N w A (T.lea.flatMap lsV) ∧ T.lea.length ≤ c ∧ c ≤ maxLen ∧ (A = none → c = 0)
theorem RefN.ref {N : Nat → Prop} {T : Tb} {sv lv : Value} {w : World} (h : RefN N T sv lv w) : RefT T sv lv w := by
  obtain ⟨⟨A, c, h1, h2, _⟩, A', c', h3, h4, h5, h6, _⟩ := h
  exact ⟨⟨A, c, h1, h2.row⟩, A', c', h3, h4.row, h5, h6⟩
theorem RefN.ext {N : Nat → Prop} {T : Tb} {sv lv : Value} {w w' : World} (h : RefN N T sv lv w) (hb : Below w.heap.size w w') : RefN N T sv lv w' := by
  obtain ⟨⟨A, c, h1, h2, g1⟩, A', c', h3, h4, h5⟩ := h
  exact ⟨⟨A, c, h1, h2.ext hb, g1⟩, A', c', h3, h4.ext hb, h5⟩
theorem RefN.put {N : Nat → Prop} {T : Tb} {sv lv : Value} {w : World} (h : RefN N T sv lv w) {g : Nat} (hg : N g) (i : Nat) (v : Value) : RefN N T sv lv (w.setCell ⟨g, i, none⟩ v) := by
  obtain ⟨⟨A, c, h1, h2, g1⟩, A', c', h3, h4, h5⟩ := h
  exact ⟨⟨A, c, h1, h2.put hg i v, g1⟩, A', c', h3, h4.put hg i v, h5⟩
theorem RefN.mono {N N' : Nat → Prop} {T : Tb} {sv lv : Value} {w : World} (h : RefN N T sv lv w) (hN : ∀ b, b < w.heap.size → N' b → N b) : RefN N' T sv lv w := by
  obtain ⟨⟨A, c, h1, h2, g1⟩, A', c', h3, h4, h5⟩ := h
  exact ⟨⟨A, c, h1, h2.mono hN, g1⟩, A', c', h3, h4.mono hN, h5⟩
theorem RefN.same {N : Nat → Prop} {T T' : Tb} {sv lv : Value} {w : World} (h : RefN N T sv lv w) (h1 : T'.ses = T.ses) (h2 : T'.lea = T.lea) : RefN N T' sv lv w := by
  unfold RefN
  rw [h1, h2]
  exact h
theorem RefN.newL {N : Nat → Prop} {T T' : Tb} {sv lv lv' : Value} {w : World} {base : Nat} (h : RefN N T sv lv w) (h1 : T'.ses = T.ses) (hl : w.ownsRow base 49 4 lv' T'.lea.length (T'.lea.flatMap lsV)) (hN : ∀ b, N b → b < base) : RefN N T' sv lv' w := by
  obtain ⟨⟨A, c, g1, g2, g3⟩, _⟩ := h
  obtain ⟨A', c', k1, k2, k3⟩ := RowN.own hl hN
  refine ⟨⟨A, c, by rw [h1]; exact g1, by rw [h1]; exact g2, by rw [h1]; exact g3⟩, A', c', k1, k2, k3⟩
theorem RefN.newS {N : Nat → Prop} {T T' : Tb} {sv lv sv' : Value} {w : World} {base : Nat} (h : RefN N T sv lv w) (h1 : T'.lea = T.lea) (hl : w.ownsRow base 2 1 sv' T'.ses.length (T'.ses.map (Value.int .i64))) (hN : ∀ b, N b → b < base) : RefN N T' sv' lv w := by
  obtain ⟨_, A, c, g1, g2, g3⟩ := h
  obtain ⟨A', c', k1, k2, k3⟩ := RowN.own hl hN
  refine ⟨⟨A', c', k1, k2, k3⟩, A, c, by rw [h1]; exact g1, by rw [h1]; exact g2, by rw [h1]; exact g3⟩
/-- A method of the reference ends: the table T', and one more value. -/
def RM1 (N : Nat → Prop) (w : World) (T' : Tb) (x : Value) (e : Ending) (w' : World) : Prop := (∃ sv' lv', e = .returned (.tuple #[refV T' sv' lv', x]) ∧ RefN N T' sv' lv' w') ∧ Below w.heap.size w w'
/-- The same with two more values. -/
def RM2 (N : Nat → Prop) (w : World) (T' : Tb) (x y : Value) (e : Ending) (w' : World) : Prop := (∃ sv' lv', e = .returned (.tuple #[refV T' sv' lv', x, y]) ∧ RefN N T' sv' lv' w') ∧ Below w.heap.size w w'
/-- A method of the reference at work: its table lies in the block D, its result in the next one. -/
structure RBox (D : Nat) (w : World) (bx rs : List Value) (w1 : World) : Prop where
  box : Held w1 D bx
  res : Held w1 (D + 1) rs
  bel : Below D w w1
theorem RBox.start {D : Nat} {w : World} {bx rs : List Value} {t u : TypeId} (hD : D = w.heap.size) : RBox D w bx rs ((w.alloc (.cells bx.toArray t (0, 0))).alloc (.cells rs.toArray u (0, 0))) :=
  ⟨(Held.new hD).alloc _, Held.new (by simp [hD]), by rw [hD]; exact ((Below.refl _ _).alloc (Nat.le_refl _) _).alloc (by simp) _⟩
theorem RBox.lt {D : Nat} {w : World} {bx rs : List Value} {w1 : World} (h : RBox D w bx rs w1) : D + 1 < w1.heap.size := h.res.lt
theorem RBox.ext {D : Nat} {w : World} {bx rs : List Value} {w1 w2 : World} (h : RBox D w bx rs w1) (hb : Below w1.heap.size w1 w2) : RBox D w bx rs w2 :=
  ⟨h.box.ext hb, h.res.ext hb, h.bel.trans (hb.mono (by have := h.lt; omega))⟩
theorem RBox.setB {D : Nat} {w : World} {bx rs : List Value} {w1 : World} (h : RBox D w bx rs w1) (i : Nat) (v : Value) : RBox D w (bx.set i v) rs (w1.setCell ⟨D, i, none⟩ v) :=
  ⟨h.box.set i v, h.res.other (by omega) i v, h.bel.setCell (p := ⟨D, i, none⟩) (Nat.le_refl _) v⟩
theorem RBox.setR {D : Nat} {w : World} {bx rs : List Value} {w1 : World} (h : RBox D w bx rs w1) (i : Nat) (v : Value) : RBox D w bx (rs.set i v) (w1.setCell ⟨D + 1, i, none⟩ v) :=
  ⟨h.box.other (by omega) i v, h.res.set i v, h.bel.setCell (p := ⟨D + 1, i, none⟩) (by simp) v⟩
/-- The blocks N and those of the box. -/
def NX (N : Nat → Prop) (D : Nat) : Nat → Prop := fun b => N b ∨ b = D ∨ b = D + 1
theorem NX.lt {N : Nat → Prop} {D : Nat} {w w1 : World} {bx rs : List Value} (h : RBox D w bx rs w1) (hN : ∀ b, N b → b < D) : ∀ b, NX N D b → b < w1.heap.size := fun b hb => by
  have := h.lt
  rcases hb with hb | rfl | rfl
  · have := hN b hb
    omega
  · omega
  · omega
theorem RefN.box {N : Nat → Prop} {D : Nat} {T : Tb} {sv lv : Value} {w w1 : World} (h : RefN N T sv lv w) (hD : D = w.heap.size) (hb : Below D w w1) : RefN (NX N D) T sv lv w1 :=
  (h.mono (N' := NX N D) (fun b hb h => by rcases h with h | h | h; exact h; omega; omega)).ext (hD ▸ hb)
theorem RefN.unbox {N : Nat → Prop} {D : Nat} {T : Tb} {sv lv : Value} {w : World} (h : RefN (NX N D) T sv lv w) : RefN N T sv lv w := h.mono (fun b _ h => .inl h)
theorem RefN.putB {N : Nat → Prop} {D : Nat} {T : Tb} {sv lv : Value} {w : World} (h : RefN (NX N D) T sv lv w) (i : Nat) (v : Value) : RefN (NX N D) T sv lv (w.setCell ⟨D, i, none⟩ v) := h.put (.inr (.inl rfl)) i v
theorem RefN.putR {N : Nat → Prop} {D : Nat} {T : Tb} {sv lv : Value} {w : World} (h : RefN (NX N D) T sv lv w) (i : Nat) (v : Value) : RefN (NX N D) T sv lv (w.setCell ⟨D + 1, i, none⟩ v) := h.put (.inr (.inr rfl)) i v
theorem leas_of_own {w : World} {B : Nat} {v : Value} {L : List Ls} (h : w.ownsRow B 49 4 v L.length (L.flatMap lsV)) : ∃ A c, v = .slice A L.length c ∧ LeasAt w A L ∧ L.length ≤ c ∧ c ≤ maxLen := by
  obtain ⟨A, c, rfl, h1, h2, h3, _⟩ := row_of_ownK h
  exact ⟨A, c, rfl, h1, h2, h3⟩
set_option maxRecDepth 100000 in
set_option maxHeartbeats 1000000 in
theorem leasesr_any (T : Tb) (sv lv : Value) (now : Int) (w : World) (h : RefT T sv lv w) (hl : T.lea.length ≤ 1000) :
    Calls Tryz.prog 17 #[refV T sv lv, .int .i64 now] w (LeasP (alive now T.lea) w) := by
  obtain ⟨i0, hi, hz0, hz1, hz2⟩ := info_parts infoL
  have HI0 := Lib.hid (And.intro hi (And.intro hz0 (And.intro hz1 hz2)))
  clear hi hz0 hz1 hz2
  obtain ⟨⟨SA, sc, rfl, _⟩, A, c, rfl, hr, hnc, hcm⟩ := h
  have HR := Lib.hid hr
  generalize T.now = tn at *
  generalize T.ls = tl at *
  generalize T.lf = tf at *
  generalize T.ses.length = sn at *
  generalize T.lea = L at *
  have hcm' : c ≤ 9223372036854775807 := by simpa [maxLen] using hcm
  obtain ⟨D, hD⟩ : ∃ D, D = w.heap.size := ⟨_, rfl⟩
  have HD := Lib.hid hD
  unfold LeasP
  rw [← hD]
  clear hr hcm
  go_enter Tryz.func17, Tryz.ntmps17
  go_wp2_with fail
  rw [← hD]
  generalize hw1 : World.alloc _ _ = w1
  have G1 := Lib.hid (show Below D w w1 by subst hw1; rw [hD]; exact below_one _ _)
  have HR0 := HR
  have HD1 := Lib.hid (show D ≤ w1.heap.size by have := G1.out.size; omega)
  clear hw1 hD
  go_loopw [5, 11] (fun o i wr => ∃ (k : Nat) (ov : Value), ov = o ∧ k ≤ L.length ∧ i = .int .i64 k ∧ Hid (wr.ownsRow D 49 4 ov (alive now (L.take k)).length ((alive now (L.take k)).flatMap lsV)) ∧ Hid (Below D w wr)) (fun _ i _ => L.length - (intOf i).toNat)
  case atStart => exact ⟨0, _, rfl, by omega, rfl, Lib.hid (World.ownsRow_nil _ _ _ _), G1⟩
  case round =>
    obtain ⟨k, ov, rfl, hk, rfl, HO, G⟩ := hrel
    have hDw : D ≤ wr.heap.size := by have := G.out.size; have := HD.out; omega
    by_cases hlt : k < L.length
    · have hlt2 : (k : Int) < (L.length : Int) := by omega
      obtain ⟨x, hx⟩ : ∃ x, L[k]? = some x := ⟨_, List.getElem?_eq_getElem hlt⟩
      have HX := Lib.hid hx
      have HRw : LeasAt wr A L := RowAt.below HR0.out (HD.out ▸ G.out) (Nat.le_refl _)
      obtain ⟨g, o, rfl⟩ := LeasAt.some HRw hx
      obtain ⟨q0, q1, q2, q3⟩ := LeasAt.get HRw hx
      have HL := Lib.hid (alive_len now (L.take k))
      have HT := Lib.hid (List.length_take_le k L)
      clear HRw hx
      by_cases ht : now < x.unt
      · have HS := Lib.hid (show alive now (L.take (k + 1)) = alive now (L.take k) ++ [x] by rw [alive_step HX.out, if_pos ht])
        have hb1 : (alive now (L.take k)).length ≤ 1000 := by have := HL.out; have := HT.out; omega
        generalize alive now (L.take k) = M at *
        go_wp2_with (at_builtin; go_loud (refine wpList_append_own _ rfl _ _ 28 rfl D 49 i0 (.agg #[.string ⟨#[]⟩, .int .i64 0, .int .i64 0, .int .i64 0]) 4 40 Tryz.underlying28 HI0.out.1 HI0.out.2.1 HI0.out.2.2.1 HI0.out.2.2.2 rfl (by decide) ov M.length (M.flatMap lsV) rfl ((HO.out.alloc _).alloc _) ⟨wr.heap.size + 1, 0, none⟩ 1 1 (lsV x) rfl rfl (CellsAt.all (by simp [CellsAt, go_sem, lsV])) (by simp [Value.oneCell', lsV]) (by simp only [maxLen]; omega) (by omega) (by simp; omega) ?_))
        intro o' w5 ho hgr _
        have G5 := Lib.hid (show Below D w w5 from (((G.out.alloc hDw _).alloc (by simp; omega) _).grown hgr (by simp; omega) (own_base HO.out)))
        have HO5 := Lib.hid (show w5.ownsRow D 49 4 o' (M ++ [x]).length ((M ++ [x]).flatMap lsV) by
          rw [List.flatMap_append, List.length_append]
          simpa using ho)
        rw [← HS.out] at HO5
        clear ho hgr
        go_wp2_with fail
        go_roundw
        case rel => exact ⟨k + 1, _, rfl, by omega, by go_num, HO5, G5⟩
        case measure => simp [intOf]; omega
      · have HS := Lib.hid (show alive now (L.take (k + 1)) = alive now (L.take k) by rw [alive_step HX.out, if_neg ht, List.append_nil])
        go_wp2_with fail
        rw [← HS.out] at HO
        go_roundw
        case rel => exact ⟨k + 1, _, rfl, by omega, by go_num, Lib.hid (HO.out.alloc _), Lib.hid (G.out.alloc hDw _)⟩
        case measure => simp [intOf]; omega
    · obtain rfl : k = L.length := by omega
      rw [List.take_length] at HO
      clear hlt
      go_wp2_with fail
      go_ret
      exact ⟨⟨_, rfl, HO.out⟩, G.out⟩
set_option maxRecDepth 100000 in
set_option maxHeartbeats 1000000 in
theorem toldr_any (N : Nat → Prop) (T : Tb) (sv lv : Value) (now : Int) (w : World) (h : RefN N T sv lv w) (hN : ∀ b, N b → b < w.heap.size) (hl : T.lea.length ≤ 1000) :
    Calls Tryz.prog 61 #[refV T sv lv, .int .i64 now] w (RM1 N w (toldT T now) (.int .i64 (toldE T now))) := by
  have H := Lib.hid h
  have HL := Lib.hid hl
  obtain ⟨D, hD⟩ : ∃ D, D = w.heap.size := ⟨_, rfl⟩
  have HD := Lib.hid hD
  have HN := Lib.hid (hD ▸ hN)
  obtain ⟨⟨SA, sc, rfl, _, hsc, hsm, _⟩, A, c, rfl, _⟩ := h
  clear hN hl
  by_cases h1 : now < 0
  · rw [show toldT T now = T by simp [toldT, toldE, h1], show toldE T now = 2 by simp [toldE, h1]]
    unfold RM1
    rw [← hD]
    go_enter Tryz.func61, Tryz.ntmps61
    go_wp2_with fail
    rw [← hD]
    clear hD
    generalize hw9 : World.alloc _ _ = w9
    have X9 := Lib.hid (show RBox D w [Value.int .i64 T.now, Value.int .i64 T.ls, Value.int .i64 T.lf, Value.slice SA T.ses.length sc, Value.slice A T.lea.length c] [Value.int .i64 T.now, Value.int .i64 T.ls, Value.int .i64 T.lf, Value.slice SA T.ses.length sc, Value.slice A T.lea.length c] w9 by rw [← hw9]; exact RBox.start HD.out)
    have N9 := Lib.hid (H.out.box HD.out X9.out.bel)
    have r0 : w9.cell? ⟨D + 1, 0, none⟩ = some (Value.int .i64 T.now) := X9.out.res.cell 0
    have r1 : w9.cell? ⟨D + 1, 1, none⟩ = some (Value.int .i64 T.ls) := X9.out.res.cell 1
    have r2 : w9.cell? ⟨D + 1, 2, none⟩ = some (Value.int .i64 T.lf) := X9.out.res.cell 2
    have r3 : w9.cell? ⟨D + 1, 3, none⟩ = some (Value.slice SA T.ses.length sc) := X9.out.res.cell 3
    have r4 : w9.cell? ⟨D + 1, 4, none⟩ = some (Value.slice A T.lea.length c) := X9.out.res.cell 4
    refine bodyPost_ret (by simp [results, Tryz.results61, r0, r1, r2, r3, r4, go_sem]; try rfl) rfl ?_
    exact ⟨⟨_, _, rfl, N9.out.unbox⟩, X9.out.bel⟩
  · by_cases h2 : 10378368000 < now
    · rw [show toldT T now = T by simp [toldT, toldE, h2], show toldE T now = 2 by simp [toldE, h2]]
      unfold RM1
      rw [← hD]
      go_enter Tryz.func61, Tryz.ntmps61
      go_wp2_with fail
      rw [← hD]
      clear hD
      generalize hw9 : World.alloc _ _ = w9
      have X9 := Lib.hid (show RBox D w [Value.int .i64 T.now, Value.int .i64 T.ls, Value.int .i64 T.lf, Value.slice SA T.ses.length sc, Value.slice A T.lea.length c] [Value.int .i64 T.now, Value.int .i64 T.ls, Value.int .i64 T.lf, Value.slice SA T.ses.length sc, Value.slice A T.lea.length c] w9 by rw [← hw9]; exact RBox.start HD.out)
      have N9 := Lib.hid (H.out.box HD.out X9.out.bel)
      have r0 : w9.cell? ⟨D + 1, 0, none⟩ = some (Value.int .i64 T.now) := X9.out.res.cell 0
      have r1 : w9.cell? ⟨D + 1, 1, none⟩ = some (Value.int .i64 T.ls) := X9.out.res.cell 1
      have r2 : w9.cell? ⟨D + 1, 2, none⟩ = some (Value.int .i64 T.lf) := X9.out.res.cell 2
      have r3 : w9.cell? ⟨D + 1, 3, none⟩ = some (Value.slice SA T.ses.length sc) := X9.out.res.cell 3
      have r4 : w9.cell? ⟨D + 1, 4, none⟩ = some (Value.slice A T.lea.length c) := X9.out.res.cell 4
      refine bodyPost_ret (by simp [results, Tryz.results61, r0, r1, r2, r3, r4, go_sem]; try rfl) rfl ?_
      exact ⟨⟨_, _, rfl, N9.out.unbox⟩, X9.out.bel⟩
    · by_cases h3 : now < T.now
      · rw [show toldT T now = T by simp [toldT, toldE, h1, h2, h3], show toldE T now = 8 by simp [toldE, h1, h2, h3]]
        unfold RM1
        rw [← hD]
        go_enter Tryz.func61, Tryz.ntmps61
        go_wp2_with fail
        rw [← hD]
        clear hD
        generalize hw9 : World.alloc _ _ = w9
        have X9 := Lib.hid (show RBox D w [Value.int .i64 T.now, Value.int .i64 T.ls, Value.int .i64 T.lf, Value.slice SA T.ses.length sc, Value.slice A T.lea.length c] [Value.int .i64 T.now, Value.int .i64 T.ls, Value.int .i64 T.lf, Value.slice SA T.ses.length sc, Value.slice A T.lea.length c] w9 by rw [← hw9]; exact RBox.start HD.out)
        have N9 := Lib.hid (H.out.box HD.out X9.out.bel)
        have r0 : w9.cell? ⟨D + 1, 0, none⟩ = some (Value.int .i64 T.now) := X9.out.res.cell 0
        have r1 : w9.cell? ⟨D + 1, 1, none⟩ = some (Value.int .i64 T.ls) := X9.out.res.cell 1
        have r2 : w9.cell? ⟨D + 1, 2, none⟩ = some (Value.int .i64 T.lf) := X9.out.res.cell 2
        have r3 : w9.cell? ⟨D + 1, 3, none⟩ = some (Value.slice SA T.ses.length sc) := X9.out.res.cell 3
        have r4 : w9.cell? ⟨D + 1, 4, none⟩ = some (Value.slice A T.lea.length c) := X9.out.res.cell 4
        refine bodyPost_ret (by simp [results, Tryz.results61, r0, r1, r2, r3, r4, go_sem]; try rfl) rfl ?_
        exact ⟨⟨_, _, rfl, N9.out.unbox⟩, X9.out.bel⟩
      · rw [show toldT T now = { T with now := now, lea := alive now T.lea } by simp [toldT, toldE, h1, h2, h3], show toldE T now = 0 by simp [toldE, h1, h2, h3]]
        unfold RM1
        rw [← hD]
        go_enter Tryz.func61, Tryz.ntmps61
        go_wp2_with fail
        rw [← hD]
        generalize hw2 : World.alloc _ _ = w2
        have X2 := Lib.hid (show RBox D w [.int .i64 now, .int .i64 T.ls, .int .i64 T.lf, .slice SA T.ses.length sc, .slice A T.lea.length c] [.int .i64 0, .int .i64 0, .int .i64 0, .slice none 0 0, .slice none 0 0] w2 by rw [← hw2]; exact RBox.start hD)
        have N2 := Lib.hid (H.out.box hD X2.out.bel)
        clear hw2 hD
        refine (leasesr_any { T with now := now } _ _ now w2 N2.out.ref HL.out).mono ?_
        rintro e w3 ⟨⟨v, rfl, hv⟩, hb⟩
        have X3 := Lib.hid (X2.out.ext hb)
        have N3 := Lib.hid ((N2.out.ext hb).newL (T' := { T with now := now, lea := alive now T.lea }) rfl hv (NX.lt X2.out HN.out))
        obtain ⟨LA, lc, rfl, _, hlc, hlm⟩ := leas_of_own hv
        clear hb hv
        have q := X3.out.box.cell
        have y := X3.out.box.free
        have q1 := X3.out.res.cell
        have y1 := X3.out.res.free
        have hlt := X3.out.lt
        go_wp2_with fail
        clear q y q1 y1
        generalize hw9 : World.setCell _ _ _ = w9
        have X9 := Lib.hid (show RBox D w _ [Value.int .i64 now, Value.int .i64 T.ls, Value.int .i64 T.lf, Value.slice SA T.ses.length sc, Value.slice LA (alive now T.lea).length lc] w9 by rw [← hw9]; exact (((((X3.out.setB 4 _).setR 0 _).setR 1 _).setR 2 _).setR 3 _).setR 4 _)
        have N9 := Lib.hid (show RefN (NX N D) _ _ _ w9 by rw [← hw9]; exact (((((N3.out.putB 4 _).putR 0 _).putR 1 _).putR 2 _).putR 3 _).putR 4 _)
        have r0 : w9.cell? ⟨D + 1, 0, none⟩ = some (Value.int .i64 now) := X9.out.res.cell 0
        have r1 : w9.cell? ⟨D + 1, 1, none⟩ = some (Value.int .i64 T.ls) := X9.out.res.cell 1
        have r2 : w9.cell? ⟨D + 1, 2, none⟩ = some (Value.int .i64 T.lf) := X9.out.res.cell 2
        have r3 : w9.cell? ⟨D + 1, 3, none⟩ = some (Value.slice SA T.ses.length sc) := X9.out.res.cell 3
        have r4 : w9.cell? ⟨D + 1, 4, none⟩ = some (Value.slice LA (alive now T.lea).length lc) := X9.out.res.cell 4
        refine bodyPost_ret (by simp [results, Tryz.results61, r0, r1, r2, r3, r4, go_sem]; try rfl) rfl ?_
        exact ⟨⟨_, _, rfl, N9.out.unbox⟩, X9.out.bel⟩
end Go.Proofs.YtneiljaknmeagaaGreatDoor
