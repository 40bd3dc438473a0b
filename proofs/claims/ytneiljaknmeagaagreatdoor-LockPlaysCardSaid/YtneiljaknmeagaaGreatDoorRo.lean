/-
  The contract of do in the law: a table and that of the reference stay alike. Its conditions are its hypotheses.
-/
import Derived.Test.YtneiljaknmeagaaGreatDoorRn
import Derived.Test.YtneiljaknmeagaaGreatDoorBc
import Derived.Test.YtneiljaknmeagaaGreatDoorLP
import Derived.Test.YtneiljaknmeagaaGreatDoorRp
import Derived.BigRegion
namespace Go.Proofs.YtneiljaknmeagaaGreatDoor
open Go.RowKit Go.Joins
set_option linter.unusedVariables false
set_option linter.unusedSimpArgs false
/-- The blocks of the program's table. -/
def PN (p : Nat) (sv lv : Value) : Nat → Prop := fun b => b = p ∨ sv.ownBlock = some b ∨ lv.ownBlock = some b
theorem PN.lt {B p : Nat} {sv lv : Value} {T : Tb} {w : World} (h : Rep B p sv lv T w) : ∀ b, PN p sv lv b → b < w.heap.size := fun b hb => by
  rcases hb with rfl | hb | hb
  · exact h.lt
  · exact (h.2.2.1.lt b hb).2
  · exact (h.2.2.2.lt b hb).2
/-- The blocks of the program's table, and the blocks E. -/
def PX (E : Nat → Prop) (p : Nat) (sv lv : Value) : Nat → Prop := fun b => PN p sv lv b ∨ E b
/-- The blocks of the program's table, the blocks E, and one more. -/
def PG (E : Nat → Prop) (p : Nat) (sv lv : Value) (G : Nat) : Nat → Prop := fun b => PN p sv lv b ∨ E b ∨ b = G
theorem PG.lt {E : Nat → Prop} {B p G : Nat} {sv lv : Value} {T : Tb} {w : World} (h : Rep B p sv lv T w) (hX : ∀ b, E b → b < w.heap.size) (hG : G < w.heap.size) : ∀ b, PG E p sv lv G b → b < w.heap.size := fun b hb => by
  rcases hb with hb | hb | rfl
  · exact PN.lt h b hb
  · exact hX b hb
  · exact hG
theorem RefN.met {E : Nat → Prop} {B p G : Nat} {sv lv sv' lv' sr lr : Value} {T : Tb} {w w' : World} (h : RefN (PG E p sv lv G) T sr lr w) (f : FrT B p sv lv w sv' lv' w') : RefN (PG E p sv' lv' G) T sr lr w' := by
  have h1 : RefN (fun b => PG E p sv lv G b ∨ PG E p sv' lv' G b) T sr lr w := h.mono (fun b hb hn => by
    rcases hn with hn | hn | hn
    · exact hn
    · rcases hn with hn | hn | hn
      · exact .inl (.inl hn)
      · rcases f.news b hn with e | e
        · exact .inl (.inr (.inl e))
        · omega
      · rcases f.newl b hn with e | e
        · exact .inl (.inr (.inr e))
        · omega
    · exact .inr hn)
  exact (h1.kept (fun b hb hn => f.kept b hb (fun e => hn (.inl (.inl (.inl e)))) (fun e => hn (.inl (.inl (.inr (.inl e))))) (fun e => hn (.inl (.inl (.inr (.inr e))))))).mono (fun b _ hn => .inr hn)
theorem Rep.off {B p : Nat} {sv lv : Value} {T : Tb} {w : World} (h : Rep B p sv lv T w) {g : Nat} (ho : Out p sv lv w g) (i : Nat) (v : Value) : Rep B p sv lv T (w.setCell ⟨g, i, none⟩ v) :=
  ⟨h.1, (Below.heap_setCell w ⟨g, i, none⟩ v p (Ne.symm ho.2.1)).trans h.2.1, own_put h.2.2.1 ho.2.2.1 i v, own_put h.2.2.2 ho.2.2.2 i v⟩
theorem Out.off {p : Nat} {sv lv : Value} {w : World} {g : Nat} (ho : Out p sv lv w g) (b i : Nat) (v : Value) : Out p sv lv (w.setCell ⟨b, i, none⟩ v) g := ⟨by have := ho.1; simpa using this, ho.2⟩
theorem Out.al {p : Nat} {sv lv : Value} {w : World} {g : Nat} (ho : Out p sv lv w g) {o : Obj} : Out p sv lv (w.alloc o) g := ⟨by have := ho.1; simp; omega, ho.2⟩
theorem Out.ext {p : Nat} {sv lv : Value} {w w' : World} {g : Nat} (ho : Out p sv lv w g) (hb : Below w.heap.size w w') : Out p sv lv w' g := ⟨Nat.lt_of_lt_of_le ho.1 hb.size, ho.2⟩
theorem five_kept {u : World} {G b : Nat} (hb : b ≠ G) (v0 v1 v2 v3 v4 : Value) : (((((u.setCell ⟨G, 0, none⟩ v0).setCell ⟨G, 1, none⟩ v1).setCell ⟨G, 2, none⟩ v2).setCell ⟨G, 3, none⟩ v3).setCell ⟨G, 4, none⟩ v4).heap[b]? = u.heap[b]? := by
  rw [Below.heap_setCell _ ⟨G, 4, none⟩ v4 b hb, Below.heap_setCell _ ⟨G, 3, none⟩ v3 b hb, Below.heap_setCell _ ⟨G, 2, none⟩ v2 b hb, Below.heap_setCell _ ⟨G, 1, none⟩ v1 b hb, Below.heap_setCell _ ⟨G, 0, none⟩ v0 b hb]
/-- The two tables, alike, and blocks E that are none of theirs. -/
structure Play (D k : Nat) (T : Tb) (p : Nat) (sr lr : Value) (E : Nat → Prop) (w : World) : Prop where
  rep : ∃ B sv lv, D ≤ B ∧ Rep B p sv lv T w ∧ RefN (PX E p sv lv) T sr lr w ∧ ∀ b, E b → Out p sv lv w b
  inv : InvP k T
def DoP (D k : Nat) (E : Nat → Prop) (w : World) (e : Ending) (w' : World) : Prop := ∃ p T sr lr, e = .returned (.tuple #[.pointer (some ⟨p, 0, none⟩), refV T sr lr, .bool true]) ∧ Play D k T p sr lr E w' ∧ Below D w w' ∧ ∀ b, E b → w'.heap[b]? = w.heap[b]?
theorem cut20 (s : ByteArray) : (s.extract 0 (min s.size 20)) = sB (s.data.toList.take 20) := ByteArray.ext (by
  apply Array.ext'
  simp [sB, Nat.min_comm])
set_option maxRecDepth 100000 in
set_option maxHeartbeats 8000000 in
theorem do_any (D k : Nat) (T : Tb) (p : Nat) (sr lr : Value) (E : Nat → Prop) (kd : Int) (rw' : Bool) (l u f : Int) (s : ByteArray) (w : World) (h : Play D k T p sr lr E w) (hk : k ≤ 100) (hD : D ≤ w.heap.size) (hkd : 0 ≤ kd ∧ kd ≤ 255) (hs : s.size ≤ 9223372036854775807) (hw : Wd w) :
    Calls Tryz.prog 11 #[.pointer (some ⟨p, 0, none⟩), refV T sr lr, .agg #[.int .u8 kd, .bool rw', .int .i64 l, .int .i64 u, .int .i64 f, .string s]] w (DoP D (k + 1) E w) := by
  obtain ⟨⟨B, sv, lv, hDB, hrep, href, hox⟩, hinv⟩ := h
  have OX := Lib.hid hox
  clear hox
  have e20 : (min (s.size : Int) 20).toNat = min s.size 20 := by omega
  have HC := Lib.hid (cut20 s)
  have HREP := Lib.hid hrep
  have HREF := Lib.hid href
  have HINV := Lib.hid hinv
  obtain ⟨⟨SA, sc, rfl, _⟩, A, c, rfl, _⟩ := href
  have hm8 : kd.tmod 8 = 0 ∨ kd.tmod 8 = 1 ∨ kd.tmod 8 = 2 ∨ kd.tmod 8 = 3 ∨ kd.tmod 8 = 4 ∨ kd.tmod 8 = 5 ∨ kd.tmod 8 = 6 ∨ kd.tmod 8 = 7 := by rw [Int.tmod_eq_emod_of_nonneg hkd.1]; omega
  have hl1 : T.lea.length ≤ 1000 := by have := hinv.snd.llen; omega
  have hl2 : T.ses.length ≤ 1000 := by have := hinv.snd.slen; omega
  have HL := Lib.hid (And.intro hl1 hl2)
  have HLS := Lib.hid (show 0 ≤ T.ls ∧ T.ls ≤ 1000000000 from ⟨hinv.snd.ls.1, by have := hinv.ls; omega⟩)
  have HLF := Lib.hid (show 0 ≤ T.lf ∧ T.lf ≤ 1000000000 from ⟨hinv.snd.lf.1, by have := hinv.lf; omega⟩)
  obtain ⟨G0, hG0⟩ : ∃ G0, G0 = w.heap.size := ⟨_, rfl⟩
  have HG0 := Lib.hid hG0
  rcases rw' with _ | _
  · rcases hm8 with hm | hm | hm | hm | hm | hm | hm | hm
    · have HM := Lib.hid hm
      have e0 : (kd.tmod 8 == 0) = true := by rw [hm]; rfl
      clear hm hkd hl1 hl2
      go_enter Tryz.func11, Tryz.ntmps11
      go_wp2_with fail
      rw [← hG0]
      generalize hw3 : World.alloc _ _ = w3
      have F4 := Lib.hid (show Held w3 G0 [.int .i64 T.now, .int .i64 T.ls, .int .i64 T.lf, .slice SA T.ses.length sc, .slice A T.lea.length c] by rw [← hw3]; exact ((Held.new hG0).alloc _).alloc _)
      have F5 := Lib.hid (show Held w3 (G0 + 1) [.int .u8 kd, .bool false, .int .i64 l, .int .i64 u, .int .i64 f, .string s] by rw [← hw3]; exact (Held.new (by simp [hG0])).alloc _)
      have F7 := Lib.hid (show Held w3 (G0 + 1 + 1) [.int .i64 0, .int .i64 0, .int .i64 0, .slice none 0 0, .slice none 0 0] by rw [← hw3]; exact Held.new (by simp [hG0]))
      have B3 := Lib.hid (show Below w.heap.size w w3 by rw [← hw3]; exact (((Below.refl _ _).alloc (Nat.le_refl _) _).alloc (by simp) _).alloc (by simp; omega) _)
      have HOF : ∀ g, w.heap.size ≤ g → g < w3.heap.size → Out p sv lv w3 g := fun g h1 h2 => HREP.out.out_new h1 h2
      have HR3 := Lib.hid (HREP.out.ext B3.out)
      have O4 := Lib.hid (HOF G0 (by omega) F4.out.lt)
      have O5 := Lib.hid (HOF (G0 + 1) (by omega) F5.out.lt)
      have O7 := Lib.hid (HOF (G0 + 1 + 1) (by omega) F7.out.lt)
      have HN3 := Lib.hid (show RefN (PG E p sv lv (G0 + 1 + 1)) T (.slice SA T.ses.length sc) (.slice A T.lea.length c) w3 from (HREF.out.mono (N' := PG E p sv lv (G0 + 1 + 1)) (fun b hb hn => hn.elim .inl (fun e => e.elim .inr (fun e => by omega)))).ext B3.out)
      have BD3 := Lib.hid (show Below D w w3 from B3.out.mono hD)
      have HDG := Lib.hid (show D ≤ G0 + 1 + 1 by omega)
      have hD3 : D ≤ w3.heap.size := by have := F7.out.lt; omega
      have OX3 := Lib.hid (show ∀ b, E b → Out p sv lv w3 b from fun b hb => (OX.out b hb).ext B3.out)
      have HX3 := Lib.hid (show ∀ b, E b → w3.heap[b]? = w.heap[b]? from fun b hb => B3.out.block b (OX.out b hb).1)
      have HXG := Lib.hid (show ∀ b, E b → b ≠ G0 + 1 + 1 from fun b hb => by have := (OX.out b hb).1; omega)
      clear hw3 HOF hG0 OX
      generalize wrap64 (T.now + bits BinOp.and IntKind.i64 l 1023) = nw
      have HINV2 := Lib.hid (show InvP (k + 1) (openR T nw).1 from hinv.opened hk)
      have HP := Lib.hid (open_any B p sv lv T nw w3 HR3.out HL.out.1 HLS.out.1 HLS.out.2)
      have HQ := Lib.hid (fun sv4 lv4 w4 (HR4 : Hid (Rep B p sv4 lv4 (openR T nw).1 w4)) (HN4 : Hid (RefN (PG E p sv4 lv4 (G0 + 1 + 1)) T (.slice SA T.ses.length sc) (.slice A T.lea.length c) w4)) (OX4 : Hid (∀ b, E b → b < w4.heap.size)) (K7 : Hid (Held w4 (G0 + 1 + 1) [.int .i64 0, .int .i64 0, .int .i64 0, .slice none 0 0, .slice none 0 0])) => openr_any _ T _ _ nw w4 HN4.out (PG.lt HR4.out OX4.out K7.out.lt) HL.out.1 HL.out.2 HLS.out.1 HLS.out.2)
      generalize (openR T nw).1 = T2 at *
      generalize (openR T nw).2.1 = a0 at *
      have u0 : (a0 == a0) = true := by simp
      generalize (openR T nw).2.2 = a1 at *
      have u1 : (a1 == a1) = true := by simp
      refine HP.out.mono ?_
      rintro e w4 ⟨rfl, sv4, lv4, h4, f4⟩
      have HR4 := Lib.hid h4
      have HN4 := Lib.hid (HN3.out.met f4)
      have K4 := Lib.hid (f4.held F4.out O4.out)
      have K5 := Lib.hid (f4.held F5.out O5.out)
      have K7 := Lib.hid (f4.held F7.out O7.out)
      have P7 := Lib.hid (f4.out O7.out)
      have HX4 := Lib.hid (show ∀ b, E b → w4.heap[b]? = w.heap[b]? from fun b hb => (f4.heap (OX3.out b hb)).trans (HX3.out b hb))
      have OX4 := Lib.hid (show ∀ b, E b → Out p sv4 lv4 w4 b from fun b hb => f4.out (OX3.out b hb))
      clear HX3 OX3
      have BD4 := Lib.hid (BD3.out.trans (f4.below.mono hDB))
      have hD4 : D ≤ w4.heap.size := by have := f4.below.size; omega
      have HQ4 := Lib.hid (HQ.out sv4 lv4 w4 HR4 HN4 (Lib.hid fun b hb => (OX4.out b hb).1) K7)
      clear h4 f4 O4 F4 O5 F5 HQ HP
      have q := K4.out.cell
      have hlt := K4.out.lt
      have q5 := K5.out.cell
      have hlt5 := K5.out.lt
      go_wp2_with fail
      refine HQ4.out.mono ?_
      rintro e w5 ⟨⟨sr5, lr5, rfl, hr5⟩, hb5⟩
      have HN5 := Lib.hid hr5
      obtain ⟨⟨S5, c5, rfl, _, _, _, _⟩, L5, d5, rfl, _, _, _, _⟩ := hr5
      have HR5 := Lib.hid (HR4.out.ext hb5)
      have J7 := Lib.hid (K7.out.ext hb5)
      have P5 := Lib.hid (P7.out.ext hb5)
      have HX5 := Lib.hid (show ∀ b, E b → w5.heap[b]? = w.heap[b]? from fun b hb => (hb5.block b (OX4.out b hb).1).trans (HX4.out b hb))
      have OX5 := Lib.hid (show ∀ b, E b → Out p sv4 lv4 w5 b from fun b hb => (OX4.out b hb).ext hb5)
      clear HX4 OX4
      have BD5 := Lib.hid (BD4.out.trans (hb5.mono hD4))
      have hD5 : D ≤ w5.heap.size := by have := hb5.size; omega
      clear hb5 q hlt q5 hlt5 HQ4
      have q7 := J7.out.cell
      have y7 := J7.out.free
      have l7 := J7.out.lt
      go_wp2_with fail
      go_region
      simp only [Exit.inBlock, Exit.then]
      go_step
      go_wp2_with (with_reducible refine stop_at ?_)
      unfold StopAt
      clear q7 y7 l7
      generalize hw9 : World.drew _ = w9
      have R9 := Lib.hid (show Rep B p sv4 lv4 T2 w9 by
        rw [← hw9]
        refine Rep.ext (Rep.ext ?_ (below_one _ _)) (Below.refl _ _).drew
        exact (((((HR5.out.off P5.out 0 _).off (P5.out.off _ 0 _) 1 _).off ((P5.out.off _ 0 _).off _ 1 _) 2 _).off (((P5.out.off _ 0 _).off _ 1 _).off _ 2 _) 3 _).off ((((P5.out.off _ 0 _).off _ 1 _).off _ 2 _).off _ 3 _) 4 _))
      have X9 := Lib.hid (show Held w9 (G0 + 1 + 1) [.int .i64 T2.now, .int .i64 T2.ls, .int .i64 T2.lf, .slice S5 T2.ses.length c5, .slice L5 T2.lea.length d5] by
        rw [← hw9]
        exact ((((((J7.out.set 0 _).set 1 _).set 2 _).set 3 _).set 4 _).alloc _).ext (Below.refl _ _).drew)
      have N9 := Lib.hid (show RefN (PG E p sv4 lv4 (G0 + 1 + 1)) T2 (.slice S5 T2.ses.length c5) (.slice L5 T2.lea.length d5) w9 by
        rw [← hw9]
        exact ((((((HN5.out.put (.inr (.inr rfl)) 0 _).put (.inr (.inr rfl)) 1 _).put (.inr (.inr rfl)) 2 _).put (.inr (.inr rfl)) 3 _).put (.inr (.inr rfl)) 4 _).ext (below_one _ _)).ext (Below.refl _ _).drew)
      have HX9 := Lib.hid (show ∀ b, E b → w9.heap[b]? = w.heap[b]? from fun b hb => by
        rw [← hw9]
        exact (((below_one _ _).block b (by have := (OX5.out b hb).1; simpa using this)).trans (five_kept (HXG.out b hb) _ _ _ _ _)).trans (HX5.out b hb))
      have OX9 := Lib.hid (show ∀ b, E b → Out p sv4 lv4 w9 b from fun b hb => by
        rw [← hw9]
        exact Out.ext (((((((OX5.out b hb).off _ 0 _).off _ 1 _).off _ 2 _).off _ 3 _).off _ 4 _).al) (Below.refl _ _).drew)
      have BD9 := Lib.hid (show Below D w w9 by
        rw [← hw9]
        exact ((((((BD5.out.setCell (p := ⟨G0 + 1 + 1, 0, none⟩) HDG.out _).setCell (p := ⟨G0 + 1 + 1, 1, none⟩) HDG.out _).setCell (p := ⟨G0 + 1 + 1, 2, none⟩) HDG.out _).setCell (p := ⟨G0 + 1 + 1, 3, none⟩) HDG.out _).setCell (p := ⟨G0 + 1 + 1, 4, none⟩) HDG.out _).alloc (by simpa using hD5) _).drew)
      have r0 : w9.cell? ⟨G0 + 1 + 1, 0, none⟩ = some (.int .i64 T2.now) := X9.out.cell 0
      have r1 : w9.cell? ⟨G0 + 1 + 1, 1, none⟩ = some (.int .i64 T2.ls) := X9.out.cell 1
      have r2 : w9.cell? ⟨G0 + 1 + 1, 2, none⟩ = some (.int .i64 T2.lf) := X9.out.cell 2
      have r3 : w9.cell? ⟨G0 + 1 + 1, 3, none⟩ = some (.slice S5 T2.ses.length c5) := X9.out.cell 3
      have r4 : w9.cell? ⟨G0 + 1 + 1, 4, none⟩ = some (.slice L5 T2.lea.length d5) := X9.out.cell 4
      refine bodyPost_ret (by simp [results, Tryz.results11, r0, r1, r2, r3, r4, go_sem]; try rfl) rfl ?_
      exact ⟨p, T2, _, _, rfl, ⟨⟨B, sv4, lv4, hDB, R9.out, N9.out.mono (fun b _ h => h.elim .inl (fun e => .inr (.inl e))), OX9.out⟩, HINV2.out⟩, BD9.out, HX9.out⟩
    · have HM := Lib.hid hm
      have e0 : (kd.tmod 8 == 0) = false := by rw [hm]; rfl
      have e1 : (kd.tmod 8 == 1) = true := by rw [hm]; rfl
      clear hm hkd hl1 hl2
      go_enter Tryz.func11, Tryz.ntmps11
      go_wp2_with fail
      rw [← hG0]
      generalize hw3 : World.alloc _ _ = w3
      have F4 := Lib.hid (show Held w3 G0 [.int .i64 T.now, .int .i64 T.ls, .int .i64 T.lf, .slice SA T.ses.length sc, .slice A T.lea.length c] by rw [← hw3]; exact ((Held.new hG0).alloc _).alloc _)
      have F5 := Lib.hid (show Held w3 (G0 + 1) [.int .u8 kd, .bool false, .int .i64 l, .int .i64 u, .int .i64 f, .string s] by rw [← hw3]; exact (Held.new (by simp [hG0])).alloc _)
      have F7 := Lib.hid (show Held w3 (G0 + 1 + 1) [.int .i64 0, .int .i64 0, .int .i64 0, .slice none 0 0, .slice none 0 0] by rw [← hw3]; exact Held.new (by simp [hG0]))
      have B3 := Lib.hid (show Below w.heap.size w w3 by rw [← hw3]; exact (((Below.refl _ _).alloc (Nat.le_refl _) _).alloc (by simp) _).alloc (by simp; omega) _)
      have HOF : ∀ g, w.heap.size ≤ g → g < w3.heap.size → Out p sv lv w3 g := fun g h1 h2 => HREP.out.out_new h1 h2
      have HR3 := Lib.hid (HREP.out.ext B3.out)
      have O4 := Lib.hid (HOF G0 (by omega) F4.out.lt)
      have O5 := Lib.hid (HOF (G0 + 1) (by omega) F5.out.lt)
      have O7 := Lib.hid (HOF (G0 + 1 + 1) (by omega) F7.out.lt)
      have HN3 := Lib.hid (show RefN (PG E p sv lv (G0 + 1 + 1)) T (.slice SA T.ses.length sc) (.slice A T.lea.length c) w3 from (HREF.out.mono (N' := PG E p sv lv (G0 + 1 + 1)) (fun b hb hn => hn.elim .inl (fun e => e.elim .inr (fun e => by omega)))).ext B3.out)
      have BD3 := Lib.hid (show Below D w w3 from B3.out.mono hD)
      have HDG := Lib.hid (show D ≤ G0 + 1 + 1 by omega)
      have hD3 : D ≤ w3.heap.size := by have := F7.out.lt; omega
      have OX3 := Lib.hid (show ∀ b, E b → Out p sv lv w3 b from fun b hb => (OX.out b hb).ext B3.out)
      have HX3 := Lib.hid (show ∀ b, E b → w3.heap[b]? = w.heap[b]? from fun b hb => B3.out.block b (OX.out b hb).1)
      have HXG := Lib.hid (show ∀ b, E b → b ≠ G0 + 1 + 1 from fun b hb => by have := (OX.out b hb).1; omega)
      clear hw3 HOF hG0 OX
      generalize wrap64 (T.now + bits BinOp.and IntKind.i64 l 1023) = nw
      have HINV2 := Lib.hid (show InvP (k + 1) (closeR T nw u).1 from hinv.closed)
      have HP := Lib.hid (close_any B p sv lv T nw u w3 HR3.out HL.out.1 HL.out.2 hinv.snd.nodup)
      have HQ := Lib.hid (fun sv4 lv4 w4 (HR4 : Hid (Rep B p sv4 lv4 (closeR T nw u).1 w4)) (HN4 : Hid (RefN (PG E p sv4 lv4 (G0 + 1 + 1)) T (.slice SA T.ses.length sc) (.slice A T.lea.length c) w4)) (OX4 : Hid (∀ b, E b → b < w4.heap.size)) (K7 : Hid (Held w4 (G0 + 1 + 1) [.int .i64 0, .int .i64 0, .int .i64 0, .slice none 0 0, .slice none 0 0])) => closer_any _ T _ _ nw u w4 HN4.out (PG.lt HR4.out OX4.out K7.out.lt) HL.out.1 HL.out.2)
      generalize (closeR T nw u).1 = T2 at *
      generalize (closeR T nw u).2 = a0 at *
      have u0 : (a0 == a0) = true := by simp
      refine HP.out.mono ?_
      rintro e w4 ⟨rfl, sv4, lv4, h4, f4⟩
      have HR4 := Lib.hid h4
      have HN4 := Lib.hid (HN3.out.met f4)
      have K4 := Lib.hid (f4.held F4.out O4.out)
      have K5 := Lib.hid (f4.held F5.out O5.out)
      have K7 := Lib.hid (f4.held F7.out O7.out)
      have P7 := Lib.hid (f4.out O7.out)
      have HX4 := Lib.hid (show ∀ b, E b → w4.heap[b]? = w.heap[b]? from fun b hb => (f4.heap (OX3.out b hb)).trans (HX3.out b hb))
      have OX4 := Lib.hid (show ∀ b, E b → Out p sv4 lv4 w4 b from fun b hb => f4.out (OX3.out b hb))
      clear HX3 OX3
      have BD4 := Lib.hid (BD3.out.trans (f4.below.mono hDB))
      have hD4 : D ≤ w4.heap.size := by have := f4.below.size; omega
      have HQ4 := Lib.hid (HQ.out sv4 lv4 w4 HR4 HN4 (Lib.hid fun b hb => (OX4.out b hb).1) K7)
      clear h4 f4 O4 F4 O5 F5 HQ HP
      have q := K4.out.cell
      have hlt := K4.out.lt
      have q5 := K5.out.cell
      have hlt5 := K5.out.lt
      go_wp2_with fail
      refine HQ4.out.mono ?_
      rintro e w5 ⟨⟨sr5, lr5, rfl, hr5⟩, hb5⟩
      have HN5 := Lib.hid hr5
      obtain ⟨⟨S5, c5, rfl, _, _, _, _⟩, L5, d5, rfl, _, _, _, _⟩ := hr5
      have HR5 := Lib.hid (HR4.out.ext hb5)
      have J7 := Lib.hid (K7.out.ext hb5)
      have P5 := Lib.hid (P7.out.ext hb5)
      have HX5 := Lib.hid (show ∀ b, E b → w5.heap[b]? = w.heap[b]? from fun b hb => (hb5.block b (OX4.out b hb).1).trans (HX4.out b hb))
      have OX5 := Lib.hid (show ∀ b, E b → Out p sv4 lv4 w5 b from fun b hb => (OX4.out b hb).ext hb5)
      clear HX4 OX4
      have BD5 := Lib.hid (BD4.out.trans (hb5.mono hD4))
      have hD5 : D ≤ w5.heap.size := by have := hb5.size; omega
      clear hb5 q hlt q5 hlt5 HQ4
      have q7 := J7.out.cell
      have y7 := J7.out.free
      have l7 := J7.out.lt
      go_wp2_with fail
      go_region
      simp only [Exit.inBlock, Exit.then]
      go_step
      go_wp2_with (with_reducible refine stop_at ?_)
      unfold StopAt
      clear q7 y7 l7
      generalize hw9 : World.drew _ = w9
      have R9 := Lib.hid (show Rep B p sv4 lv4 T2 w9 by
        rw [← hw9]
        refine Rep.ext (Rep.ext ?_ (below_one _ _)) (Below.refl _ _).drew
        exact (((((HR5.out.off P5.out 0 _).off (P5.out.off _ 0 _) 1 _).off ((P5.out.off _ 0 _).off _ 1 _) 2 _).off (((P5.out.off _ 0 _).off _ 1 _).off _ 2 _) 3 _).off ((((P5.out.off _ 0 _).off _ 1 _).off _ 2 _).off _ 3 _) 4 _))
      have X9 := Lib.hid (show Held w9 (G0 + 1 + 1) [.int .i64 T2.now, .int .i64 T2.ls, .int .i64 T2.lf, .slice S5 T2.ses.length c5, .slice L5 T2.lea.length d5] by
        rw [← hw9]
        exact ((((((J7.out.set 0 _).set 1 _).set 2 _).set 3 _).set 4 _).alloc _).ext (Below.refl _ _).drew)
      have N9 := Lib.hid (show RefN (PG E p sv4 lv4 (G0 + 1 + 1)) T2 (.slice S5 T2.ses.length c5) (.slice L5 T2.lea.length d5) w9 by
        rw [← hw9]
        exact ((((((HN5.out.put (.inr (.inr rfl)) 0 _).put (.inr (.inr rfl)) 1 _).put (.inr (.inr rfl)) 2 _).put (.inr (.inr rfl)) 3 _).put (.inr (.inr rfl)) 4 _).ext (below_one _ _)).ext (Below.refl _ _).drew)
      have HX9 := Lib.hid (show ∀ b, E b → w9.heap[b]? = w.heap[b]? from fun b hb => by
        rw [← hw9]
        exact (((below_one _ _).block b (by have := (OX5.out b hb).1; simpa using this)).trans (five_kept (HXG.out b hb) _ _ _ _ _)).trans (HX5.out b hb))
      have OX9 := Lib.hid (show ∀ b, E b → Out p sv4 lv4 w9 b from fun b hb => by
        rw [← hw9]
        exact Out.ext (((((((OX5.out b hb).off _ 0 _).off _ 1 _).off _ 2 _).off _ 3 _).off _ 4 _).al) (Below.refl _ _).drew)
      have BD9 := Lib.hid (show Below D w w9 by
        rw [← hw9]
        exact ((((((BD5.out.setCell (p := ⟨G0 + 1 + 1, 0, none⟩) HDG.out _).setCell (p := ⟨G0 + 1 + 1, 1, none⟩) HDG.out _).setCell (p := ⟨G0 + 1 + 1, 2, none⟩) HDG.out _).setCell (p := ⟨G0 + 1 + 1, 3, none⟩) HDG.out _).setCell (p := ⟨G0 + 1 + 1, 4, none⟩) HDG.out _).alloc (by simpa using hD5) _).drew)
      have r0 : w9.cell? ⟨G0 + 1 + 1, 0, none⟩ = some (.int .i64 T2.now) := X9.out.cell 0
      have r1 : w9.cell? ⟨G0 + 1 + 1, 1, none⟩ = some (.int .i64 T2.ls) := X9.out.cell 1
      have r2 : w9.cell? ⟨G0 + 1 + 1, 2, none⟩ = some (.int .i64 T2.lf) := X9.out.cell 2
      have r3 : w9.cell? ⟨G0 + 1 + 1, 3, none⟩ = some (.slice S5 T2.ses.length c5) := X9.out.cell 3
      have r4 : w9.cell? ⟨G0 + 1 + 1, 4, none⟩ = some (.slice L5 T2.lea.length d5) := X9.out.cell 4
      refine bodyPost_ret (by simp [results, Tryz.results11, r0, r1, r2, r3, r4, go_sem]; try rfl) rfl ?_
      exact ⟨p, T2, _, _, rfl, ⟨⟨B, sv4, lv4, hDB, R9.out, N9.out.mono (fun b _ h => h.elim .inl (fun e => .inr (.inl e))), OX9.out⟩, HINV2.out⟩, BD9.out, HX9.out⟩
    · have HM := Lib.hid hm
      have e0 : (kd.tmod 8 == 0) = false := by rw [hm]; rfl
      have e1 : (kd.tmod 8 == 1) = false := by rw [hm]; rfl
      have e2 : (kd.tmod 8 == 2) = true := by rw [hm]; rfl
      clear hm hkd hl1 hl2
      go_enter Tryz.func11, Tryz.ntmps11
      go_wp2_with fail
      rw [← hG0]
      generalize hw3 : World.alloc _ _ = w3
      have F4 := Lib.hid (show Held w3 G0 [.int .i64 T.now, .int .i64 T.ls, .int .i64 T.lf, .slice SA T.ses.length sc, .slice A T.lea.length c] by rw [← hw3]; exact ((Held.new hG0).alloc _).alloc _)
      have F5 := Lib.hid (show Held w3 (G0 + 1) [.int .u8 kd, .bool false, .int .i64 l, .int .i64 u, .int .i64 f, .string s] by rw [← hw3]; exact (Held.new (by simp [hG0])).alloc _)
      have F7 := Lib.hid (show Held w3 (G0 + 1 + 1) [.int .i64 0, .int .i64 0, .int .i64 0, .slice none 0 0, .slice none 0 0] by rw [← hw3]; exact Held.new (by simp [hG0]))
      have B3 := Lib.hid (show Below w.heap.size w w3 by rw [← hw3]; exact (((Below.refl _ _).alloc (Nat.le_refl _) _).alloc (by simp) _).alloc (by simp; omega) _)
      have HOF : ∀ g, w.heap.size ≤ g → g < w3.heap.size → Out p sv lv w3 g := fun g h1 h2 => HREP.out.out_new h1 h2
      have HR3 := Lib.hid (HREP.out.ext B3.out)
      have O4 := Lib.hid (HOF G0 (by omega) F4.out.lt)
      have O5 := Lib.hid (HOF (G0 + 1) (by omega) F5.out.lt)
      have O7 := Lib.hid (HOF (G0 + 1 + 1) (by omega) F7.out.lt)
      have HN3 := Lib.hid (show RefN (PG E p sv lv (G0 + 1 + 1)) T (.slice SA T.ses.length sc) (.slice A T.lea.length c) w3 from (HREF.out.mono (N' := PG E p sv lv (G0 + 1 + 1)) (fun b hb hn => hn.elim .inl (fun e => e.elim .inr (fun e => by omega)))).ext B3.out)
      have BD3 := Lib.hid (show Below D w w3 from B3.out.mono hD)
      have HDG := Lib.hid (show D ≤ G0 + 1 + 1 by omega)
      have hD3 : D ≤ w3.heap.size := by have := F7.out.lt; omega
      have OX3 := Lib.hid (show ∀ b, E b → Out p sv lv w3 b from fun b hb => (OX.out b hb).ext B3.out)
      have HX3 := Lib.hid (show ∀ b, E b → w3.heap[b]? = w.heap[b]? from fun b hb => B3.out.block b (OX.out b hb).1)
      have HXG := Lib.hid (show ∀ b, E b → b ≠ G0 + 1 + 1 from fun b hb => by have := (OX.out b hb).1; omega)
      clear hw3 HOF hG0 OX
      generalize wrap64 (T.now + bits BinOp.and IntKind.i64 l 1023) = nw
      rw [HC.out]
      have HINV2 := Lib.hid (show InvP (k + 1) (takeR T nw u (s.data.toList.take 20)).1 from hinv.taken hk)
      have HP := Lib.hid (take_any B p sv lv T nw u (s.data.toList.take 20) w3 HR3.out hinv.snd.asc2 HL.out.1 HL.out.2 HLF.out.1 HLF.out.2)
      have HQ := Lib.hid (fun sv4 lv4 w4 (HR4 : Hid (Rep B p sv4 lv4 (takeR T nw u (s.data.toList.take 20)).1 w4)) (HN4 : Hid (RefN (PG E p sv4 lv4 (G0 + 1 + 1)) T (.slice SA T.ses.length sc) (.slice A T.lea.length c) w4)) (OX4 : Hid (∀ b, E b → b < w4.heap.size)) (K7 : Hid (Held w4 (G0 + 1 + 1) [.int .i64 0, .int .i64 0, .int .i64 0, .slice none 0 0, .slice none 0 0])) => taker_any _ T _ _ nw u (s.data.toList.take 20) w4 HN4.out (PG.lt HR4.out OX4.out K7.out.lt) hinv.snd.asc2 HL.out.1 HL.out.2 HLF.out.1 HLF.out.2)
      generalize (takeR T nw u (s.data.toList.take 20)).1 = T2 at *
      generalize (takeR T nw u (s.data.toList.take 20)).2.1 = a0 at *
      have u0 : (a0 == a0) = true := by simp
      generalize (takeR T nw u (s.data.toList.take 20)).2.2 = a1 at *
      have u1 : (a1 == a1) = true := by simp
      refine HP.out.mono ?_
      rintro e w4 ⟨rfl, sv4, lv4, h4, f4⟩
      have HR4 := Lib.hid h4
      have HN4 := Lib.hid (HN3.out.met f4)
      have K4 := Lib.hid (f4.held F4.out O4.out)
      have K5 := Lib.hid (f4.held F5.out O5.out)
      have K7 := Lib.hid (f4.held F7.out O7.out)
      have P7 := Lib.hid (f4.out O7.out)
      have HX4 := Lib.hid (show ∀ b, E b → w4.heap[b]? = w.heap[b]? from fun b hb => (f4.heap (OX3.out b hb)).trans (HX3.out b hb))
      have OX4 := Lib.hid (show ∀ b, E b → Out p sv4 lv4 w4 b from fun b hb => f4.out (OX3.out b hb))
      clear HX3 OX3
      have BD4 := Lib.hid (BD3.out.trans (f4.below.mono hDB))
      have hD4 : D ≤ w4.heap.size := by have := f4.below.size; omega
      have HQ4 := Lib.hid (HQ.out sv4 lv4 w4 HR4 HN4 (Lib.hid fun b hb => (OX4.out b hb).1) K7)
      clear h4 f4 O4 F4 O5 F5 HQ HP
      have q := K4.out.cell
      have hlt := K4.out.lt
      have q5 := K5.out.cell
      have hlt5 := K5.out.lt
      go_wp2_with fail
      refine HQ4.out.mono ?_
      rintro e w5 ⟨⟨sr5, lr5, rfl, hr5⟩, hb5⟩
      have HN5 := Lib.hid hr5
      obtain ⟨⟨S5, c5, rfl, _, _, _, _⟩, L5, d5, rfl, _, _, _, _⟩ := hr5
      have HR5 := Lib.hid (HR4.out.ext hb5)
      have J7 := Lib.hid (K7.out.ext hb5)
      have P5 := Lib.hid (P7.out.ext hb5)
      have HX5 := Lib.hid (show ∀ b, E b → w5.heap[b]? = w.heap[b]? from fun b hb => (hb5.block b (OX4.out b hb).1).trans (HX4.out b hb))
      have OX5 := Lib.hid (show ∀ b, E b → Out p sv4 lv4 w5 b from fun b hb => (OX4.out b hb).ext hb5)
      clear HX4 OX4
      have BD5 := Lib.hid (BD4.out.trans (hb5.mono hD4))
      have hD5 : D ≤ w5.heap.size := by have := hb5.size; omega
      clear hb5 q hlt q5 hlt5 HQ4
      have q7 := J7.out.cell
      have y7 := J7.out.free
      have l7 := J7.out.lt
      go_wp2_with fail
      go_region
      simp only [Exit.inBlock, Exit.then]
      go_step
      go_wp2_with (with_reducible refine stop_at ?_)
      unfold StopAt
      clear q7 y7 l7
      generalize hw9 : World.drew _ = w9
      have R9 := Lib.hid (show Rep B p sv4 lv4 T2 w9 by
        rw [← hw9]
        refine Rep.ext (Rep.ext ?_ (below_one _ _)) (Below.refl _ _).drew
        exact (((((HR5.out.off P5.out 0 _).off (P5.out.off _ 0 _) 1 _).off ((P5.out.off _ 0 _).off _ 1 _) 2 _).off (((P5.out.off _ 0 _).off _ 1 _).off _ 2 _) 3 _).off ((((P5.out.off _ 0 _).off _ 1 _).off _ 2 _).off _ 3 _) 4 _))
      have X9 := Lib.hid (show Held w9 (G0 + 1 + 1) [.int .i64 T2.now, .int .i64 T2.ls, .int .i64 T2.lf, .slice S5 T2.ses.length c5, .slice L5 T2.lea.length d5] by
        rw [← hw9]
        exact ((((((J7.out.set 0 _).set 1 _).set 2 _).set 3 _).set 4 _).alloc _).ext (Below.refl _ _).drew)
      have N9 := Lib.hid (show RefN (PG E p sv4 lv4 (G0 + 1 + 1)) T2 (.slice S5 T2.ses.length c5) (.slice L5 T2.lea.length d5) w9 by
        rw [← hw9]
        exact ((((((HN5.out.put (.inr (.inr rfl)) 0 _).put (.inr (.inr rfl)) 1 _).put (.inr (.inr rfl)) 2 _).put (.inr (.inr rfl)) 3 _).put (.inr (.inr rfl)) 4 _).ext (below_one _ _)).ext (Below.refl _ _).drew)
      have HX9 := Lib.hid (show ∀ b, E b → w9.heap[b]? = w.heap[b]? from fun b hb => by
        rw [← hw9]
        exact (((below_one _ _).block b (by have := (OX5.out b hb).1; simpa using this)).trans (five_kept (HXG.out b hb) _ _ _ _ _)).trans (HX5.out b hb))
      have OX9 := Lib.hid (show ∀ b, E b → Out p sv4 lv4 w9 b from fun b hb => by
        rw [← hw9]
        exact Out.ext (((((((OX5.out b hb).off _ 0 _).off _ 1 _).off _ 2 _).off _ 3 _).off _ 4 _).al) (Below.refl _ _).drew)
      have BD9 := Lib.hid (show Below D w w9 by
        rw [← hw9]
        exact ((((((BD5.out.setCell (p := ⟨G0 + 1 + 1, 0, none⟩) HDG.out _).setCell (p := ⟨G0 + 1 + 1, 1, none⟩) HDG.out _).setCell (p := ⟨G0 + 1 + 1, 2, none⟩) HDG.out _).setCell (p := ⟨G0 + 1 + 1, 3, none⟩) HDG.out _).setCell (p := ⟨G0 + 1 + 1, 4, none⟩) HDG.out _).alloc (by simpa using hD5) _).drew)
      have r0 : w9.cell? ⟨G0 + 1 + 1, 0, none⟩ = some (.int .i64 T2.now) := X9.out.cell 0
      have r1 : w9.cell? ⟨G0 + 1 + 1, 1, none⟩ = some (.int .i64 T2.ls) := X9.out.cell 1
      have r2 : w9.cell? ⟨G0 + 1 + 1, 2, none⟩ = some (.int .i64 T2.lf) := X9.out.cell 2
      have r3 : w9.cell? ⟨G0 + 1 + 1, 3, none⟩ = some (.slice S5 T2.ses.length c5) := X9.out.cell 3
      have r4 : w9.cell? ⟨G0 + 1 + 1, 4, none⟩ = some (.slice L5 T2.lea.length d5) := X9.out.cell 4
      refine bodyPost_ret (by simp [results, Tryz.results11, r0, r1, r2, r3, r4, go_sem]; try rfl) rfl ?_
      exact ⟨p, T2, _, _, rfl, ⟨⟨B, sv4, lv4, hDB, R9.out, N9.out.mono (fun b _ h => h.elim .inl (fun e => .inr (.inl e))), OX9.out⟩, HINV2.out⟩, BD9.out, HX9.out⟩
    · have HM := Lib.hid hm
      have e0 : (kd.tmod 8 == 0) = false := by rw [hm]; rfl
      have e1 : (kd.tmod 8 == 1) = false := by rw [hm]; rfl
      have e2 : (kd.tmod 8 == 2) = false := by rw [hm]; rfl
      have e3 : (kd.tmod 8 == 3) = true := by rw [hm]; rfl
      clear hm hkd hl1 hl2
      go_enter Tryz.func11, Tryz.ntmps11
      go_wp2_with fail
      rw [← hG0]
      generalize hw3 : World.alloc _ _ = w3
      have F4 := Lib.hid (show Held w3 G0 [.int .i64 T.now, .int .i64 T.ls, .int .i64 T.lf, .slice SA T.ses.length sc, .slice A T.lea.length c] by rw [← hw3]; exact ((Held.new hG0).alloc _).alloc _)
      have F5 := Lib.hid (show Held w3 (G0 + 1) [.int .u8 kd, .bool false, .int .i64 l, .int .i64 u, .int .i64 f, .string s] by rw [← hw3]; exact (Held.new (by simp [hG0])).alloc _)
      have F7 := Lib.hid (show Held w3 (G0 + 1 + 1) [.int .i64 0, .int .i64 0, .int .i64 0, .slice none 0 0, .slice none 0 0] by rw [← hw3]; exact Held.new (by simp [hG0]))
      have B3 := Lib.hid (show Below w.heap.size w w3 by rw [← hw3]; exact (((Below.refl _ _).alloc (Nat.le_refl _) _).alloc (by simp) _).alloc (by simp; omega) _)
      have HOF : ∀ g, w.heap.size ≤ g → g < w3.heap.size → Out p sv lv w3 g := fun g h1 h2 => HREP.out.out_new h1 h2
      have HR3 := Lib.hid (HREP.out.ext B3.out)
      have O4 := Lib.hid (HOF G0 (by omega) F4.out.lt)
      have O5 := Lib.hid (HOF (G0 + 1) (by omega) F5.out.lt)
      have O7 := Lib.hid (HOF (G0 + 1 + 1) (by omega) F7.out.lt)
      have HN3 := Lib.hid (show RefN (PG E p sv lv (G0 + 1 + 1)) T (.slice SA T.ses.length sc) (.slice A T.lea.length c) w3 from (HREF.out.mono (N' := PG E p sv lv (G0 + 1 + 1)) (fun b hb hn => hn.elim .inl (fun e => e.elim .inr (fun e => by omega)))).ext B3.out)
      have BD3 := Lib.hid (show Below D w w3 from B3.out.mono hD)
      have HDG := Lib.hid (show D ≤ G0 + 1 + 1 by omega)
      have hD3 : D ≤ w3.heap.size := by have := F7.out.lt; omega
      have OX3 := Lib.hid (show ∀ b, E b → Out p sv lv w3 b from fun b hb => (OX.out b hb).ext B3.out)
      have HX3 := Lib.hid (show ∀ b, E b → w3.heap[b]? = w.heap[b]? from fun b hb => B3.out.block b (OX.out b hb).1)
      have HXG := Lib.hid (show ∀ b, E b → b ≠ G0 + 1 + 1 from fun b hb => by have := (OX.out b hb).1; omega)
      clear hw3 HOF hG0 OX
      generalize wrap64 (T.now + bits BinOp.and IntKind.i64 l 1023) = nw
      rw [HC.out]
      have HINV2 := Lib.hid (show InvP (k + 1) (takeR T nw u (s.data.toList.take 20)).1 from hinv.taken hk)
      have HP := Lib.hid (take_any B p sv lv T nw u (s.data.toList.take 20) w3 HR3.out hinv.snd.asc2 HL.out.1 HL.out.2 HLF.out.1 HLF.out.2)
      have HQ := Lib.hid (fun sv4 lv4 w4 (HR4 : Hid (Rep B p sv4 lv4 (takeR T nw u (s.data.toList.take 20)).1 w4)) (HN4 : Hid (RefN (PG E p sv4 lv4 (G0 + 1 + 1)) T (.slice SA T.ses.length sc) (.slice A T.lea.length c) w4)) (OX4 : Hid (∀ b, E b → b < w4.heap.size)) (K7 : Hid (Held w4 (G0 + 1 + 1) [.int .i64 0, .int .i64 0, .int .i64 0, .slice none 0 0, .slice none 0 0])) => taker_any _ T _ _ nw u (s.data.toList.take 20) w4 HN4.out (PG.lt HR4.out OX4.out K7.out.lt) hinv.snd.asc2 HL.out.1 HL.out.2 HLF.out.1 HLF.out.2)
      generalize (takeR T nw u (s.data.toList.take 20)).1 = T2 at *
      generalize (takeR T nw u (s.data.toList.take 20)).2.1 = a0 at *
      have u0 : (a0 == a0) = true := by simp
      generalize (takeR T nw u (s.data.toList.take 20)).2.2 = a1 at *
      have u1 : (a1 == a1) = true := by simp
      refine HP.out.mono ?_
      rintro e w4 ⟨rfl, sv4, lv4, h4, f4⟩
      have HR4 := Lib.hid h4
      have HN4 := Lib.hid (HN3.out.met f4)
      have K4 := Lib.hid (f4.held F4.out O4.out)
      have K5 := Lib.hid (f4.held F5.out O5.out)
      have K7 := Lib.hid (f4.held F7.out O7.out)
      have P7 := Lib.hid (f4.out O7.out)
      have HX4 := Lib.hid (show ∀ b, E b → w4.heap[b]? = w.heap[b]? from fun b hb => (f4.heap (OX3.out b hb)).trans (HX3.out b hb))
      have OX4 := Lib.hid (show ∀ b, E b → Out p sv4 lv4 w4 b from fun b hb => f4.out (OX3.out b hb))
      clear HX3 OX3
      have BD4 := Lib.hid (BD3.out.trans (f4.below.mono hDB))
      have hD4 : D ≤ w4.heap.size := by have := f4.below.size; omega
      have HQ4 := Lib.hid (HQ.out sv4 lv4 w4 HR4 HN4 (Lib.hid fun b hb => (OX4.out b hb).1) K7)
      clear h4 f4 O4 F4 O5 F5 HQ HP
      have q := K4.out.cell
      have hlt := K4.out.lt
      have q5 := K5.out.cell
      have hlt5 := K5.out.lt
      go_wp2_with fail
      refine HQ4.out.mono ?_
      rintro e w5 ⟨⟨sr5, lr5, rfl, hr5⟩, hb5⟩
      have HN5 := Lib.hid hr5
      obtain ⟨⟨S5, c5, rfl, _, _, _, _⟩, L5, d5, rfl, _, _, _, _⟩ := hr5
      have HR5 := Lib.hid (HR4.out.ext hb5)
      have J7 := Lib.hid (K7.out.ext hb5)
      have P5 := Lib.hid (P7.out.ext hb5)
      have HX5 := Lib.hid (show ∀ b, E b → w5.heap[b]? = w.heap[b]? from fun b hb => (hb5.block b (OX4.out b hb).1).trans (HX4.out b hb))
      have OX5 := Lib.hid (show ∀ b, E b → Out p sv4 lv4 w5 b from fun b hb => (OX4.out b hb).ext hb5)
      clear HX4 OX4
      have BD5 := Lib.hid (BD4.out.trans (hb5.mono hD4))
      have hD5 : D ≤ w5.heap.size := by have := hb5.size; omega
      clear hb5 q hlt q5 hlt5 HQ4
      have q7 := J7.out.cell
      have y7 := J7.out.free
      have l7 := J7.out.lt
      go_wp2_with fail
      go_region
      simp only [Exit.inBlock, Exit.then]
      go_step
      go_wp2_with (with_reducible refine stop_at ?_)
      unfold StopAt
      clear q7 y7 l7
      generalize hw9 : World.drew _ = w9
      have R9 := Lib.hid (show Rep B p sv4 lv4 T2 w9 by
        rw [← hw9]
        refine Rep.ext (Rep.ext ?_ (below_one _ _)) (Below.refl _ _).drew
        exact (((((HR5.out.off P5.out 0 _).off (P5.out.off _ 0 _) 1 _).off ((P5.out.off _ 0 _).off _ 1 _) 2 _).off (((P5.out.off _ 0 _).off _ 1 _).off _ 2 _) 3 _).off ((((P5.out.off _ 0 _).off _ 1 _).off _ 2 _).off _ 3 _) 4 _))
      have X9 := Lib.hid (show Held w9 (G0 + 1 + 1) [.int .i64 T2.now, .int .i64 T2.ls, .int .i64 T2.lf, .slice S5 T2.ses.length c5, .slice L5 T2.lea.length d5] by
        rw [← hw9]
        exact ((((((J7.out.set 0 _).set 1 _).set 2 _).set 3 _).set 4 _).alloc _).ext (Below.refl _ _).drew)
      have N9 := Lib.hid (show RefN (PG E p sv4 lv4 (G0 + 1 + 1)) T2 (.slice S5 T2.ses.length c5) (.slice L5 T2.lea.length d5) w9 by
        rw [← hw9]
        exact ((((((HN5.out.put (.inr (.inr rfl)) 0 _).put (.inr (.inr rfl)) 1 _).put (.inr (.inr rfl)) 2 _).put (.inr (.inr rfl)) 3 _).put (.inr (.inr rfl)) 4 _).ext (below_one _ _)).ext (Below.refl _ _).drew)
      have HX9 := Lib.hid (show ∀ b, E b → w9.heap[b]? = w.heap[b]? from fun b hb => by
        rw [← hw9]
        exact (((below_one _ _).block b (by have := (OX5.out b hb).1; simpa using this)).trans (five_kept (HXG.out b hb) _ _ _ _ _)).trans (HX5.out b hb))
      have OX9 := Lib.hid (show ∀ b, E b → Out p sv4 lv4 w9 b from fun b hb => by
        rw [← hw9]
        exact Out.ext (((((((OX5.out b hb).off _ 0 _).off _ 1 _).off _ 2 _).off _ 3 _).off _ 4 _).al) (Below.refl _ _).drew)
      have BD9 := Lib.hid (show Below D w w9 by
        rw [← hw9]
        exact ((((((BD5.out.setCell (p := ⟨G0 + 1 + 1, 0, none⟩) HDG.out _).setCell (p := ⟨G0 + 1 + 1, 1, none⟩) HDG.out _).setCell (p := ⟨G0 + 1 + 1, 2, none⟩) HDG.out _).setCell (p := ⟨G0 + 1 + 1, 3, none⟩) HDG.out _).setCell (p := ⟨G0 + 1 + 1, 4, none⟩) HDG.out _).alloc (by simpa using hD5) _).drew)
      have r0 : w9.cell? ⟨G0 + 1 + 1, 0, none⟩ = some (.int .i64 T2.now) := X9.out.cell 0
      have r1 : w9.cell? ⟨G0 + 1 + 1, 1, none⟩ = some (.int .i64 T2.ls) := X9.out.cell 1
      have r2 : w9.cell? ⟨G0 + 1 + 1, 2, none⟩ = some (.int .i64 T2.lf) := X9.out.cell 2
      have r3 : w9.cell? ⟨G0 + 1 + 1, 3, none⟩ = some (.slice S5 T2.ses.length c5) := X9.out.cell 3
      have r4 : w9.cell? ⟨G0 + 1 + 1, 4, none⟩ = some (.slice L5 T2.lea.length d5) := X9.out.cell 4
      refine bodyPost_ret (by simp [results, Tryz.results11, r0, r1, r2, r3, r4, go_sem]; try rfl) rfl ?_
      exact ⟨p, T2, _, _, rfl, ⟨⟨B, sv4, lv4, hDB, R9.out, N9.out.mono (fun b _ h => h.elim .inl (fun e => .inr (.inl e))), OX9.out⟩, HINV2.out⟩, BD9.out, HX9.out⟩
    · have HM := Lib.hid hm
      have e0 : (kd.tmod 8 == 0) = false := by rw [hm]; rfl
      have e1 : (kd.tmod 8 == 1) = false := by rw [hm]; rfl
      have e2 : (kd.tmod 8 == 2) = false := by rw [hm]; rfl
      have e3 : (kd.tmod 8 == 3) = false := by rw [hm]; rfl
      have e4 : (kd.tmod 8 == 4) = true := by rw [hm]; rfl
      clear hm hkd hl1 hl2
      go_enter Tryz.func11, Tryz.ntmps11
      go_wp2_with fail
      rw [← hG0]
      generalize hw3 : World.alloc _ _ = w3
      have F4 := Lib.hid (show Held w3 G0 [.int .i64 T.now, .int .i64 T.ls, .int .i64 T.lf, .slice SA T.ses.length sc, .slice A T.lea.length c] by rw [← hw3]; exact ((Held.new hG0).alloc _).alloc _)
      have F5 := Lib.hid (show Held w3 (G0 + 1) [.int .u8 kd, .bool false, .int .i64 l, .int .i64 u, .int .i64 f, .string s] by rw [← hw3]; exact (Held.new (by simp [hG0])).alloc _)
      have F7 := Lib.hid (show Held w3 (G0 + 1 + 1) [.int .i64 0, .int .i64 0, .int .i64 0, .slice none 0 0, .slice none 0 0] by rw [← hw3]; exact Held.new (by simp [hG0]))
      have B3 := Lib.hid (show Below w.heap.size w w3 by rw [← hw3]; exact (((Below.refl _ _).alloc (Nat.le_refl _) _).alloc (by simp) _).alloc (by simp; omega) _)
      have HOF : ∀ g, w.heap.size ≤ g → g < w3.heap.size → Out p sv lv w3 g := fun g h1 h2 => HREP.out.out_new h1 h2
      have HR3 := Lib.hid (HREP.out.ext B3.out)
      have O4 := Lib.hid (HOF G0 (by omega) F4.out.lt)
      have O5 := Lib.hid (HOF (G0 + 1) (by omega) F5.out.lt)
      have O7 := Lib.hid (HOF (G0 + 1 + 1) (by omega) F7.out.lt)
      have HN3 := Lib.hid (show RefN (PG E p sv lv (G0 + 1 + 1)) T (.slice SA T.ses.length sc) (.slice A T.lea.length c) w3 from (HREF.out.mono (N' := PG E p sv lv (G0 + 1 + 1)) (fun b hb hn => hn.elim .inl (fun e => e.elim .inr (fun e => by omega)))).ext B3.out)
      have BD3 := Lib.hid (show Below D w w3 from B3.out.mono hD)
      have HDG := Lib.hid (show D ≤ G0 + 1 + 1 by omega)
      have hD3 : D ≤ w3.heap.size := by have := F7.out.lt; omega
      have OX3 := Lib.hid (show ∀ b, E b → Out p sv lv w3 b from fun b hb => (OX.out b hb).ext B3.out)
      have HX3 := Lib.hid (show ∀ b, E b → w3.heap[b]? = w.heap[b]? from fun b hb => B3.out.block b (OX.out b hb).1)
      have HXG := Lib.hid (show ∀ b, E b → b ≠ G0 + 1 + 1 from fun b hb => by have := (OX.out b hb).1; omega)
      clear hw3 HOF hG0 OX
      generalize wrap64 (T.now + bits BinOp.and IntKind.i64 l 1023) = nw
      rw [HC.out]
      have HINV2 := Lib.hid (show InvP (k + 1) (renewT T nw u (s.data.toList.take 20) f) from hinv.renewed)
      have HP := Lib.hid (renew_any B p sv lv T nw u (s.data.toList.take 20) f w3 HR3.out hinv.snd.asc2 HL.out.1)
      have HQ := Lib.hid (fun sv4 lv4 w4 (HR4 : Hid (Rep B p sv4 lv4 (renewT T nw u (s.data.toList.take 20) f) w4)) (HN4 : Hid (RefN (PG E p sv4 lv4 (G0 + 1 + 1)) T (.slice SA T.ses.length sc) (.slice A T.lea.length c) w4)) (OX4 : Hid (∀ b, E b → b < w4.heap.size)) (K7 : Hid (Held w4 (G0 + 1 + 1) [.int .i64 0, .int .i64 0, .int .i64 0, .slice none 0 0, .slice none 0 0])) => renewr_any _ T _ _ nw u (s.data.toList.take 20) f w4 HN4.out (PG.lt HR4.out OX4.out K7.out.lt) hinv.snd.asc2 HL.out.1)
      generalize (renewT T nw u (s.data.toList.take 20) f) = T2 at *
      generalize (heldE T nw u (s.data.toList.take 20) f) = a0 at *
      have u0 : (a0 == a0) = true := by simp
      refine HP.out.mono ?_
      rintro e w4 ⟨rfl, sv4, lv4, h4, f4⟩
      have HR4 := Lib.hid h4
      have HN4 := Lib.hid (HN3.out.met f4)
      have K4 := Lib.hid (f4.held F4.out O4.out)
      have K5 := Lib.hid (f4.held F5.out O5.out)
      have K7 := Lib.hid (f4.held F7.out O7.out)
      have P7 := Lib.hid (f4.out O7.out)
      have HX4 := Lib.hid (show ∀ b, E b → w4.heap[b]? = w.heap[b]? from fun b hb => (f4.heap (OX3.out b hb)).trans (HX3.out b hb))
      have OX4 := Lib.hid (show ∀ b, E b → Out p sv4 lv4 w4 b from fun b hb => f4.out (OX3.out b hb))
      clear HX3 OX3
      have BD4 := Lib.hid (BD3.out.trans (f4.below.mono hDB))
      have hD4 : D ≤ w4.heap.size := by have := f4.below.size; omega
      have HQ4 := Lib.hid (HQ.out sv4 lv4 w4 HR4 HN4 (Lib.hid fun b hb => (OX4.out b hb).1) K7)
      clear h4 f4 O4 F4 O5 F5 HQ HP
      have q := K4.out.cell
      have hlt := K4.out.lt
      have q5 := K5.out.cell
      have hlt5 := K5.out.lt
      go_wp2_with fail
      refine HQ4.out.mono ?_
      rintro e w5 ⟨⟨sr5, lr5, rfl, hr5⟩, hb5⟩
      have HN5 := Lib.hid hr5
      obtain ⟨⟨S5, c5, rfl, _, _, _, _⟩, L5, d5, rfl, _, _, _, _⟩ := hr5
      have HR5 := Lib.hid (HR4.out.ext hb5)
      have J7 := Lib.hid (K7.out.ext hb5)
      have P5 := Lib.hid (P7.out.ext hb5)
      have HX5 := Lib.hid (show ∀ b, E b → w5.heap[b]? = w.heap[b]? from fun b hb => (hb5.block b (OX4.out b hb).1).trans (HX4.out b hb))
      have OX5 := Lib.hid (show ∀ b, E b → Out p sv4 lv4 w5 b from fun b hb => (OX4.out b hb).ext hb5)
      clear HX4 OX4
      have BD5 := Lib.hid (BD4.out.trans (hb5.mono hD4))
      have hD5 : D ≤ w5.heap.size := by have := hb5.size; omega
      clear hb5 q hlt q5 hlt5 HQ4
      have q7 := J7.out.cell
      have y7 := J7.out.free
      have l7 := J7.out.lt
      go_wp2_with fail
      go_region
      simp only [Exit.inBlock, Exit.then]
      go_step
      go_wp2_with (with_reducible refine stop_at ?_)
      unfold StopAt
      clear q7 y7 l7
      generalize hw9 : World.drew _ = w9
      have R9 := Lib.hid (show Rep B p sv4 lv4 T2 w9 by
        rw [← hw9]
        refine Rep.ext (Rep.ext ?_ (below_one _ _)) (Below.refl _ _).drew
        exact (((((HR5.out.off P5.out 0 _).off (P5.out.off _ 0 _) 1 _).off ((P5.out.off _ 0 _).off _ 1 _) 2 _).off (((P5.out.off _ 0 _).off _ 1 _).off _ 2 _) 3 _).off ((((P5.out.off _ 0 _).off _ 1 _).off _ 2 _).off _ 3 _) 4 _))
      have X9 := Lib.hid (show Held w9 (G0 + 1 + 1) [.int .i64 T2.now, .int .i64 T2.ls, .int .i64 T2.lf, .slice S5 T2.ses.length c5, .slice L5 T2.lea.length d5] by
        rw [← hw9]
        exact ((((((J7.out.set 0 _).set 1 _).set 2 _).set 3 _).set 4 _).alloc _).ext (Below.refl _ _).drew)
      have N9 := Lib.hid (show RefN (PG E p sv4 lv4 (G0 + 1 + 1)) T2 (.slice S5 T2.ses.length c5) (.slice L5 T2.lea.length d5) w9 by
        rw [← hw9]
        exact ((((((HN5.out.put (.inr (.inr rfl)) 0 _).put (.inr (.inr rfl)) 1 _).put (.inr (.inr rfl)) 2 _).put (.inr (.inr rfl)) 3 _).put (.inr (.inr rfl)) 4 _).ext (below_one _ _)).ext (Below.refl _ _).drew)
      have HX9 := Lib.hid (show ∀ b, E b → w9.heap[b]? = w.heap[b]? from fun b hb => by
        rw [← hw9]
        exact (((below_one _ _).block b (by have := (OX5.out b hb).1; simpa using this)).trans (five_kept (HXG.out b hb) _ _ _ _ _)).trans (HX5.out b hb))
      have OX9 := Lib.hid (show ∀ b, E b → Out p sv4 lv4 w9 b from fun b hb => by
        rw [← hw9]
        exact Out.ext (((((((OX5.out b hb).off _ 0 _).off _ 1 _).off _ 2 _).off _ 3 _).off _ 4 _).al) (Below.refl _ _).drew)
      have BD9 := Lib.hid (show Below D w w9 by
        rw [← hw9]
        exact ((((((BD5.out.setCell (p := ⟨G0 + 1 + 1, 0, none⟩) HDG.out _).setCell (p := ⟨G0 + 1 + 1, 1, none⟩) HDG.out _).setCell (p := ⟨G0 + 1 + 1, 2, none⟩) HDG.out _).setCell (p := ⟨G0 + 1 + 1, 3, none⟩) HDG.out _).setCell (p := ⟨G0 + 1 + 1, 4, none⟩) HDG.out _).alloc (by simpa using hD5) _).drew)
      have r0 : w9.cell? ⟨G0 + 1 + 1, 0, none⟩ = some (.int .i64 T2.now) := X9.out.cell 0
      have r1 : w9.cell? ⟨G0 + 1 + 1, 1, none⟩ = some (.int .i64 T2.ls) := X9.out.cell 1
      have r2 : w9.cell? ⟨G0 + 1 + 1, 2, none⟩ = some (.int .i64 T2.lf) := X9.out.cell 2
      have r3 : w9.cell? ⟨G0 + 1 + 1, 3, none⟩ = some (.slice S5 T2.ses.length c5) := X9.out.cell 3
      have r4 : w9.cell? ⟨G0 + 1 + 1, 4, none⟩ = some (.slice L5 T2.lea.length d5) := X9.out.cell 4
      refine bodyPost_ret (by simp [results, Tryz.results11, r0, r1, r2, r3, r4, go_sem]; try rfl) rfl ?_
      exact ⟨p, T2, _, _, rfl, ⟨⟨B, sv4, lv4, hDB, R9.out, N9.out.mono (fun b _ h => h.elim .inl (fun e => .inr (.inl e))), OX9.out⟩, HINV2.out⟩, BD9.out, HX9.out⟩
    · have HM := Lib.hid hm
      have e0 : (kd.tmod 8 == 0) = false := by rw [hm]; rfl
      have e1 : (kd.tmod 8 == 1) = false := by rw [hm]; rfl
      have e2 : (kd.tmod 8 == 2) = false := by rw [hm]; rfl
      have e3 : (kd.tmod 8 == 3) = false := by rw [hm]; rfl
      have e4 : (kd.tmod 8 == 4) = false := by rw [hm]; rfl
      have e5 : (kd.tmod 8 == 5) = true := by rw [hm]; rfl
      clear hm hkd hl1 hl2
      go_enter Tryz.func11, Tryz.ntmps11
      go_wp2_with fail
      rw [← hG0]
      generalize hw3 : World.alloc _ _ = w3
      have F4 := Lib.hid (show Held w3 G0 [.int .i64 T.now, .int .i64 T.ls, .int .i64 T.lf, .slice SA T.ses.length sc, .slice A T.lea.length c] by rw [← hw3]; exact ((Held.new hG0).alloc _).alloc _)
      have F5 := Lib.hid (show Held w3 (G0 + 1) [.int .u8 kd, .bool false, .int .i64 l, .int .i64 u, .int .i64 f, .string s] by rw [← hw3]; exact (Held.new (by simp [hG0])).alloc _)
      have F7 := Lib.hid (show Held w3 (G0 + 1 + 1) [.int .i64 0, .int .i64 0, .int .i64 0, .slice none 0 0, .slice none 0 0] by rw [← hw3]; exact Held.new (by simp [hG0]))
      have B3 := Lib.hid (show Below w.heap.size w w3 by rw [← hw3]; exact (((Below.refl _ _).alloc (Nat.le_refl _) _).alloc (by simp) _).alloc (by simp; omega) _)
      have HOF : ∀ g, w.heap.size ≤ g → g < w3.heap.size → Out p sv lv w3 g := fun g h1 h2 => HREP.out.out_new h1 h2
      have HR3 := Lib.hid (HREP.out.ext B3.out)
      have O4 := Lib.hid (HOF G0 (by omega) F4.out.lt)
      have O5 := Lib.hid (HOF (G0 + 1) (by omega) F5.out.lt)
      have O7 := Lib.hid (HOF (G0 + 1 + 1) (by omega) F7.out.lt)
      have HN3 := Lib.hid (show RefN (PG E p sv lv (G0 + 1 + 1)) T (.slice SA T.ses.length sc) (.slice A T.lea.length c) w3 from (HREF.out.mono (N' := PG E p sv lv (G0 + 1 + 1)) (fun b hb hn => hn.elim .inl (fun e => e.elim .inr (fun e => by omega)))).ext B3.out)
      have BD3 := Lib.hid (show Below D w w3 from B3.out.mono hD)
      have HDG := Lib.hid (show D ≤ G0 + 1 + 1 by omega)
      have hD3 : D ≤ w3.heap.size := by have := F7.out.lt; omega
      have OX3 := Lib.hid (show ∀ b, E b → Out p sv lv w3 b from fun b hb => (OX.out b hb).ext B3.out)
      have HX3 := Lib.hid (show ∀ b, E b → w3.heap[b]? = w.heap[b]? from fun b hb => B3.out.block b (OX.out b hb).1)
      have HXG := Lib.hid (show ∀ b, E b → b ≠ G0 + 1 + 1 from fun b hb => by have := (OX.out b hb).1; omega)
      clear hw3 HOF hG0 OX
      generalize wrap64 (T.now + bits BinOp.and IntKind.i64 l 1023) = nw
      rw [HC.out]
      have HINV2 := Lib.hid (show InvP (k + 1) (releaseT T nw u (s.data.toList.take 20) f) from hinv.released)
      have HP := Lib.hid (release_any B p sv lv T nw u (s.data.toList.take 20) f w3 HR3.out hinv.snd.asc2 HL.out.1)
      have HQ := Lib.hid (fun sv4 lv4 w4 (HR4 : Hid (Rep B p sv4 lv4 (releaseT T nw u (s.data.toList.take 20) f) w4)) (HN4 : Hid (RefN (PG E p sv4 lv4 (G0 + 1 + 1)) T (.slice SA T.ses.length sc) (.slice A T.lea.length c) w4)) (OX4 : Hid (∀ b, E b → b < w4.heap.size)) (K7 : Hid (Held w4 (G0 + 1 + 1) [.int .i64 0, .int .i64 0, .int .i64 0, .slice none 0 0, .slice none 0 0])) => releaser_any _ T _ _ nw u (s.data.toList.take 20) f w4 HN4.out (PG.lt HR4.out OX4.out K7.out.lt) hinv.snd.asc2 HL.out.1)
      generalize (releaseT T nw u (s.data.toList.take 20) f) = T2 at *
      generalize (heldE T nw u (s.data.toList.take 20) f) = a0 at *
      have u0 : (a0 == a0) = true := by simp
      refine HP.out.mono ?_
      rintro e w4 ⟨rfl, sv4, lv4, h4, f4⟩
      have HR4 := Lib.hid h4
      have HN4 := Lib.hid (HN3.out.met f4)
      have K4 := Lib.hid (f4.held F4.out O4.out)
      have K5 := Lib.hid (f4.held F5.out O5.out)
      have K7 := Lib.hid (f4.held F7.out O7.out)
      have P7 := Lib.hid (f4.out O7.out)
      have HX4 := Lib.hid (show ∀ b, E b → w4.heap[b]? = w.heap[b]? from fun b hb => (f4.heap (OX3.out b hb)).trans (HX3.out b hb))
      have OX4 := Lib.hid (show ∀ b, E b → Out p sv4 lv4 w4 b from fun b hb => f4.out (OX3.out b hb))
      clear HX3 OX3
      have BD4 := Lib.hid (BD3.out.trans (f4.below.mono hDB))
      have hD4 : D ≤ w4.heap.size := by have := f4.below.size; omega
      have HQ4 := Lib.hid (HQ.out sv4 lv4 w4 HR4 HN4 (Lib.hid fun b hb => (OX4.out b hb).1) K7)
      clear h4 f4 O4 F4 O5 F5 HQ HP
      have q := K4.out.cell
      have hlt := K4.out.lt
      have q5 := K5.out.cell
      have hlt5 := K5.out.lt
      go_wp2_with fail
      refine HQ4.out.mono ?_
      rintro e w5 ⟨⟨sr5, lr5, rfl, hr5⟩, hb5⟩
      have HN5 := Lib.hid hr5
      obtain ⟨⟨S5, c5, rfl, _, _, _, _⟩, L5, d5, rfl, _, _, _, _⟩ := hr5
      have HR5 := Lib.hid (HR4.out.ext hb5)
      have J7 := Lib.hid (K7.out.ext hb5)
      have P5 := Lib.hid (P7.out.ext hb5)
      have HX5 := Lib.hid (show ∀ b, E b → w5.heap[b]? = w.heap[b]? from fun b hb => (hb5.block b (OX4.out b hb).1).trans (HX4.out b hb))
      have OX5 := Lib.hid (show ∀ b, E b → Out p sv4 lv4 w5 b from fun b hb => (OX4.out b hb).ext hb5)
      clear HX4 OX4
      have BD5 := Lib.hid (BD4.out.trans (hb5.mono hD4))
      have hD5 : D ≤ w5.heap.size := by have := hb5.size; omega
      clear hb5 q hlt q5 hlt5 HQ4
      have q7 := J7.out.cell
      have y7 := J7.out.free
      have l7 := J7.out.lt
      go_wp2_with fail
      go_region
      simp only [Exit.inBlock, Exit.then]
      go_step
      go_wp2_with (with_reducible refine stop_at ?_)
      unfold StopAt
      clear q7 y7 l7
      generalize hw9 : World.drew _ = w9
      have R9 := Lib.hid (show Rep B p sv4 lv4 T2 w9 by
        rw [← hw9]
        refine Rep.ext (Rep.ext ?_ (below_one _ _)) (Below.refl _ _).drew
        exact (((((HR5.out.off P5.out 0 _).off (P5.out.off _ 0 _) 1 _).off ((P5.out.off _ 0 _).off _ 1 _) 2 _).off (((P5.out.off _ 0 _).off _ 1 _).off _ 2 _) 3 _).off ((((P5.out.off _ 0 _).off _ 1 _).off _ 2 _).off _ 3 _) 4 _))
      have X9 := Lib.hid (show Held w9 (G0 + 1 + 1) [.int .i64 T2.now, .int .i64 T2.ls, .int .i64 T2.lf, .slice S5 T2.ses.length c5, .slice L5 T2.lea.length d5] by
        rw [← hw9]
        exact ((((((J7.out.set 0 _).set 1 _).set 2 _).set 3 _).set 4 _).alloc _).ext (Below.refl _ _).drew)
      have N9 := Lib.hid (show RefN (PG E p sv4 lv4 (G0 + 1 + 1)) T2 (.slice S5 T2.ses.length c5) (.slice L5 T2.lea.length d5) w9 by
        rw [← hw9]
        exact ((((((HN5.out.put (.inr (.inr rfl)) 0 _).put (.inr (.inr rfl)) 1 _).put (.inr (.inr rfl)) 2 _).put (.inr (.inr rfl)) 3 _).put (.inr (.inr rfl)) 4 _).ext (below_one _ _)).ext (Below.refl _ _).drew)
      have HX9 := Lib.hid (show ∀ b, E b → w9.heap[b]? = w.heap[b]? from fun b hb => by
        rw [← hw9]
        exact (((below_one _ _).block b (by have := (OX5.out b hb).1; simpa using this)).trans (five_kept (HXG.out b hb) _ _ _ _ _)).trans (HX5.out b hb))
      have OX9 := Lib.hid (show ∀ b, E b → Out p sv4 lv4 w9 b from fun b hb => by
        rw [← hw9]
        exact Out.ext (((((((OX5.out b hb).off _ 0 _).off _ 1 _).off _ 2 _).off _ 3 _).off _ 4 _).al) (Below.refl _ _).drew)
      have BD9 := Lib.hid (show Below D w w9 by
        rw [← hw9]
        exact ((((((BD5.out.setCell (p := ⟨G0 + 1 + 1, 0, none⟩) HDG.out _).setCell (p := ⟨G0 + 1 + 1, 1, none⟩) HDG.out _).setCell (p := ⟨G0 + 1 + 1, 2, none⟩) HDG.out _).setCell (p := ⟨G0 + 1 + 1, 3, none⟩) HDG.out _).setCell (p := ⟨G0 + 1 + 1, 4, none⟩) HDG.out _).alloc (by simpa using hD5) _).drew)
      have r0 : w9.cell? ⟨G0 + 1 + 1, 0, none⟩ = some (.int .i64 T2.now) := X9.out.cell 0
      have r1 : w9.cell? ⟨G0 + 1 + 1, 1, none⟩ = some (.int .i64 T2.ls) := X9.out.cell 1
      have r2 : w9.cell? ⟨G0 + 1 + 1, 2, none⟩ = some (.int .i64 T2.lf) := X9.out.cell 2
      have r3 : w9.cell? ⟨G0 + 1 + 1, 3, none⟩ = some (.slice S5 T2.ses.length c5) := X9.out.cell 3
      have r4 : w9.cell? ⟨G0 + 1 + 1, 4, none⟩ = some (.slice L5 T2.lea.length d5) := X9.out.cell 4
      refine bodyPost_ret (by simp [results, Tryz.results11, r0, r1, r2, r3, r4, go_sem]; try rfl) rfl ?_
      exact ⟨p, T2, _, _, rfl, ⟨⟨B, sv4, lv4, hDB, R9.out, N9.out.mono (fun b _ h => h.elim .inl (fun e => .inr (.inl e))), OX9.out⟩, HINV2.out⟩, BD9.out, HX9.out⟩
    · have HM := Lib.hid hm
      have e0 : (kd.tmod 8 == 0) = false := by rw [hm]; rfl
      have e1 : (kd.tmod 8 == 1) = false := by rw [hm]; rfl
      have e2 : (kd.tmod 8 == 2) = false := by rw [hm]; rfl
      have e3 : (kd.tmod 8 == 3) = false := by rw [hm]; rfl
      have e4 : (kd.tmod 8 == 4) = false := by rw [hm]; rfl
      have e5 : (kd.tmod 8 == 5) = false := by rw [hm]; rfl
      have e6 : (kd.tmod 8 == 6) = true := by rw [hm]; rfl
      clear hm hkd hl1 hl2
      go_enter Tryz.func11, Tryz.ntmps11
      go_wp2_with fail
      rw [← hG0]
      generalize hw3 : World.alloc _ _ = w3
      have F4 := Lib.hid (show Held w3 G0 [.int .i64 T.now, .int .i64 T.ls, .int .i64 T.lf, .slice SA T.ses.length sc, .slice A T.lea.length c] by rw [← hw3]; exact ((Held.new hG0).alloc _).alloc _)
      have F5 := Lib.hid (show Held w3 (G0 + 1) [.int .u8 kd, .bool false, .int .i64 l, .int .i64 u, .int .i64 f, .string s] by rw [← hw3]; exact (Held.new (by simp [hG0])).alloc _)
      have F7 := Lib.hid (show Held w3 (G0 + 1 + 1) [.int .i64 0, .int .i64 0, .int .i64 0, .slice none 0 0, .slice none 0 0] by rw [← hw3]; exact Held.new (by simp [hG0]))
      have B3 := Lib.hid (show Below w.heap.size w w3 by rw [← hw3]; exact (((Below.refl _ _).alloc (Nat.le_refl _) _).alloc (by simp) _).alloc (by simp; omega) _)
      have HOF : ∀ g, w.heap.size ≤ g → g < w3.heap.size → Out p sv lv w3 g := fun g h1 h2 => HREP.out.out_new h1 h2
      have HR3 := Lib.hid (HREP.out.ext B3.out)
      have O4 := Lib.hid (HOF G0 (by omega) F4.out.lt)
      have O5 := Lib.hid (HOF (G0 + 1) (by omega) F5.out.lt)
      have O7 := Lib.hid (HOF (G0 + 1 + 1) (by omega) F7.out.lt)
      have HN3 := Lib.hid (show RefN (PG E p sv lv (G0 + 1 + 1)) T (.slice SA T.ses.length sc) (.slice A T.lea.length c) w3 from (HREF.out.mono (N' := PG E p sv lv (G0 + 1 + 1)) (fun b hb hn => hn.elim .inl (fun e => e.elim .inr (fun e => by omega)))).ext B3.out)
      have BD3 := Lib.hid (show Below D w w3 from B3.out.mono hD)
      have HDG := Lib.hid (show D ≤ G0 + 1 + 1 by omega)
      have hD3 : D ≤ w3.heap.size := by have := F7.out.lt; omega
      have OX3 := Lib.hid (show ∀ b, E b → Out p sv lv w3 b from fun b hb => (OX.out b hb).ext B3.out)
      have HX3 := Lib.hid (show ∀ b, E b → w3.heap[b]? = w.heap[b]? from fun b hb => B3.out.block b (OX.out b hb).1)
      have HXG := Lib.hid (show ∀ b, E b → b ≠ G0 + 1 + 1 from fun b hb => by have := (OX.out b hb).1; omega)
      clear hw3 HOF hG0 OX
      generalize wrap64 (T.now + bits BinOp.and IntKind.i64 l 1023) = nw
      rw [HC.out]
      have HINV2 := Lib.hid (show InvP (k + 1) (toldT T nw) from hinv.told.mono)
      have HP := Lib.hid (check_any B p sv lv T nw u (s.data.toList.take 20) f w3 HR3.out hinv.snd.asc2 HL.out.1)
      have HQ := Lib.hid (fun sv4 lv4 w4 (HR4 : Hid (Rep B p sv4 lv4 (toldT T nw) w4)) (HN4 : Hid (RefN (PG E p sv4 lv4 (G0 + 1 + 1)) T (.slice SA T.ses.length sc) (.slice A T.lea.length c) w4)) (OX4 : Hid (∀ b, E b → b < w4.heap.size)) (K7 : Hid (Held w4 (G0 + 1 + 1) [.int .i64 0, .int .i64 0, .int .i64 0, .slice none 0 0, .slice none 0 0])) => checkr_any _ T _ _ nw u (s.data.toList.take 20) f w4 HN4.out (PG.lt HR4.out OX4.out K7.out.lt) hinv.snd.asc2 HL.out.1)
      generalize (toldT T nw) = T2 at *
      generalize (heldE T nw u (s.data.toList.take 20) f) = a0 at *
      have u0 : (a0 == a0) = true := by simp
      refine HP.out.mono ?_
      rintro e w4 ⟨rfl, sv4, lv4, h4, f4⟩
      have HR4 := Lib.hid h4
      have HN4 := Lib.hid (HN3.out.met f4)
      have K4 := Lib.hid (f4.held F4.out O4.out)
      have K5 := Lib.hid (f4.held F5.out O5.out)
      have K7 := Lib.hid (f4.held F7.out O7.out)
      have P7 := Lib.hid (f4.out O7.out)
      have HX4 := Lib.hid (show ∀ b, E b → w4.heap[b]? = w.heap[b]? from fun b hb => (f4.heap (OX3.out b hb)).trans (HX3.out b hb))
      have OX4 := Lib.hid (show ∀ b, E b → Out p sv4 lv4 w4 b from fun b hb => f4.out (OX3.out b hb))
      clear HX3 OX3
      have BD4 := Lib.hid (BD3.out.trans (f4.below.mono hDB))
      have hD4 : D ≤ w4.heap.size := by have := f4.below.size; omega
      have HQ4 := Lib.hid (HQ.out sv4 lv4 w4 HR4 HN4 (Lib.hid fun b hb => (OX4.out b hb).1) K7)
      clear h4 f4 O4 F4 O5 F5 HQ HP
      have q := K4.out.cell
      have hlt := K4.out.lt
      have q5 := K5.out.cell
      have hlt5 := K5.out.lt
      go_wp2_with fail
      refine HQ4.out.mono ?_
      rintro e w5 ⟨⟨sr5, lr5, rfl, hr5⟩, hb5⟩
      have HN5 := Lib.hid hr5
      obtain ⟨⟨S5, c5, rfl, _, _, _, _⟩, L5, d5, rfl, _, _, _, _⟩ := hr5
      have HR5 := Lib.hid (HR4.out.ext hb5)
      have J7 := Lib.hid (K7.out.ext hb5)
      have P5 := Lib.hid (P7.out.ext hb5)
      have HX5 := Lib.hid (show ∀ b, E b → w5.heap[b]? = w.heap[b]? from fun b hb => (hb5.block b (OX4.out b hb).1).trans (HX4.out b hb))
      have OX5 := Lib.hid (show ∀ b, E b → Out p sv4 lv4 w5 b from fun b hb => (OX4.out b hb).ext hb5)
      clear HX4 OX4
      have BD5 := Lib.hid (BD4.out.trans (hb5.mono hD4))
      have hD5 : D ≤ w5.heap.size := by have := hb5.size; omega
      clear hb5 q hlt q5 hlt5 HQ4
      have q7 := J7.out.cell
      have y7 := J7.out.free
      have l7 := J7.out.lt
      go_wp2_with fail
      go_region
      simp only [Exit.inBlock, Exit.then]
      go_step
      go_wp2_with (with_reducible refine stop_at ?_)
      unfold StopAt
      clear q7 y7 l7
      generalize hw9 : World.drew _ = w9
      have R9 := Lib.hid (show Rep B p sv4 lv4 T2 w9 by
        rw [← hw9]
        refine Rep.ext (Rep.ext ?_ (below_one _ _)) (Below.refl _ _).drew
        exact (((((HR5.out.off P5.out 0 _).off (P5.out.off _ 0 _) 1 _).off ((P5.out.off _ 0 _).off _ 1 _) 2 _).off (((P5.out.off _ 0 _).off _ 1 _).off _ 2 _) 3 _).off ((((P5.out.off _ 0 _).off _ 1 _).off _ 2 _).off _ 3 _) 4 _))
      have X9 := Lib.hid (show Held w9 (G0 + 1 + 1) [.int .i64 T2.now, .int .i64 T2.ls, .int .i64 T2.lf, .slice S5 T2.ses.length c5, .slice L5 T2.lea.length d5] by
        rw [← hw9]
        exact ((((((J7.out.set 0 _).set 1 _).set 2 _).set 3 _).set 4 _).alloc _).ext (Below.refl _ _).drew)
      have N9 := Lib.hid (show RefN (PG E p sv4 lv4 (G0 + 1 + 1)) T2 (.slice S5 T2.ses.length c5) (.slice L5 T2.lea.length d5) w9 by
        rw [← hw9]
        exact ((((((HN5.out.put (.inr (.inr rfl)) 0 _).put (.inr (.inr rfl)) 1 _).put (.inr (.inr rfl)) 2 _).put (.inr (.inr rfl)) 3 _).put (.inr (.inr rfl)) 4 _).ext (below_one _ _)).ext (Below.refl _ _).drew)
      have HX9 := Lib.hid (show ∀ b, E b → w9.heap[b]? = w.heap[b]? from fun b hb => by
        rw [← hw9]
        exact (((below_one _ _).block b (by have := (OX5.out b hb).1; simpa using this)).trans (five_kept (HXG.out b hb) _ _ _ _ _)).trans (HX5.out b hb))
      have OX9 := Lib.hid (show ∀ b, E b → Out p sv4 lv4 w9 b from fun b hb => by
        rw [← hw9]
        exact Out.ext (((((((OX5.out b hb).off _ 0 _).off _ 1 _).off _ 2 _).off _ 3 _).off _ 4 _).al) (Below.refl _ _).drew)
      have BD9 := Lib.hid (show Below D w w9 by
        rw [← hw9]
        exact ((((((BD5.out.setCell (p := ⟨G0 + 1 + 1, 0, none⟩) HDG.out _).setCell (p := ⟨G0 + 1 + 1, 1, none⟩) HDG.out _).setCell (p := ⟨G0 + 1 + 1, 2, none⟩) HDG.out _).setCell (p := ⟨G0 + 1 + 1, 3, none⟩) HDG.out _).setCell (p := ⟨G0 + 1 + 1, 4, none⟩) HDG.out _).alloc (by simpa using hD5) _).drew)
      have r0 : w9.cell? ⟨G0 + 1 + 1, 0, none⟩ = some (.int .i64 T2.now) := X9.out.cell 0
      have r1 : w9.cell? ⟨G0 + 1 + 1, 1, none⟩ = some (.int .i64 T2.ls) := X9.out.cell 1
      have r2 : w9.cell? ⟨G0 + 1 + 1, 2, none⟩ = some (.int .i64 T2.lf) := X9.out.cell 2
      have r3 : w9.cell? ⟨G0 + 1 + 1, 3, none⟩ = some (.slice S5 T2.ses.length c5) := X9.out.cell 3
      have r4 : w9.cell? ⟨G0 + 1 + 1, 4, none⟩ = some (.slice L5 T2.lea.length d5) := X9.out.cell 4
      refine bodyPost_ret (by simp [results, Tryz.results11, r0, r1, r2, r3, r4, go_sem]; try rfl) rfl ?_
      exact ⟨p, T2, _, _, rfl, ⟨⟨B, sv4, lv4, hDB, R9.out, N9.out.mono (fun b _ h => h.elim .inl (fun e => .inr (.inl e))), OX9.out⟩, HINV2.out⟩, BD9.out, HX9.out⟩
    · have HM := Lib.hid hm
      have e0 : (kd.tmod 8 == 0) = false := by rw [hm]; rfl
      have e1 : (kd.tmod 8 == 1) = false := by rw [hm]; rfl
      have e2 : (kd.tmod 8 == 2) = false := by rw [hm]; rfl
      have e3 : (kd.tmod 8 == 3) = false := by rw [hm]; rfl
      have e4 : (kd.tmod 8 == 4) = false := by rw [hm]; rfl
      have e5 : (kd.tmod 8 == 5) = false := by rw [hm]; rfl
      have e6 : (kd.tmod 8 == 6) = false := by rw [hm]; rfl
      clear hm hkd hl1 hl2
      go_enter Tryz.func11, Tryz.ntmps11
      go_wp2_with fail
      rw [← hG0]
      generalize hw3 : World.alloc _ _ = w3
      have F4 := Lib.hid (show Held w3 G0 [.int .i64 T.now, .int .i64 T.ls, .int .i64 T.lf, .slice SA T.ses.length sc, .slice A T.lea.length c] by rw [← hw3]; exact ((Held.new hG0).alloc _).alloc _)
      have F5 := Lib.hid (show Held w3 (G0 + 1) [.int .u8 kd, .bool false, .int .i64 l, .int .i64 u, .int .i64 f, .string s] by rw [← hw3]; exact (Held.new (by simp [hG0])).alloc _)
      have F7 := Lib.hid (show Held w3 (G0 + 1 + 1) [.int .i64 0, .int .i64 0, .int .i64 0, .slice none 0 0, .slice none 0 0] by rw [← hw3]; exact Held.new (by simp [hG0]))
      have B3 := Lib.hid (show Below w.heap.size w w3 by rw [← hw3]; exact (((Below.refl _ _).alloc (Nat.le_refl _) _).alloc (by simp) _).alloc (by simp; omega) _)
      have HOF : ∀ g, w.heap.size ≤ g → g < w3.heap.size → Out p sv lv w3 g := fun g h1 h2 => HREP.out.out_new h1 h2
      have HR3 := Lib.hid (HREP.out.ext B3.out)
      have O4 := Lib.hid (HOF G0 (by omega) F4.out.lt)
      have O5 := Lib.hid (HOF (G0 + 1) (by omega) F5.out.lt)
      have O7 := Lib.hid (HOF (G0 + 1 + 1) (by omega) F7.out.lt)
      have HN3 := Lib.hid (show RefN (PG E p sv lv (G0 + 1 + 1)) T (.slice SA T.ses.length sc) (.slice A T.lea.length c) w3 from (HREF.out.mono (N' := PG E p sv lv (G0 + 1 + 1)) (fun b hb hn => hn.elim .inl (fun e => e.elim .inr (fun e => by omega)))).ext B3.out)
      have BD3 := Lib.hid (show Below D w w3 from B3.out.mono hD)
      have HDG := Lib.hid (show D ≤ G0 + 1 + 1 by omega)
      have hD3 : D ≤ w3.heap.size := by have := F7.out.lt; omega
      have OX3 := Lib.hid (show ∀ b, E b → Out p sv lv w3 b from fun b hb => (OX.out b hb).ext B3.out)
      have HX3 := Lib.hid (show ∀ b, E b → w3.heap[b]? = w.heap[b]? from fun b hb => B3.out.block b (OX.out b hb).1)
      have HXG := Lib.hid (show ∀ b, E b → b ≠ G0 + 1 + 1 from fun b hb => by have := (OX.out b hb).1; omega)
      clear hw3 HOF hG0 OX
      generalize wrap64 (T.now + bits BinOp.and IntKind.i64 l 1023) = nw
      have HWD := Lib.hid hw
      have HTP := Lib.hid (text_par hinv.snd)
      have HB3 := Lib.hid (show Below w.heap.size w w3 from B3.out)
      refine (text_any B p sv lv T w3 HR3.out (snd_fit hinv.snd) (HWD.out.on HB3.out).tab).mono ?_
      rintro e w4 ⟨rfl, hb4⟩
      have HB4 := Lib.hid (HB3.out.trans (hb4.mono HB3.out.size))
      have HTS := Lib.hid (text_short hinv hk)
      go_wp2_with fail
      refine (parse_any (textT T) w4 HTS.out (HWD.out.on HB4.out)).mono ?_
      rintro e w5 ⟨hor, hb5⟩
      rw [HTP.out] at hor
      obtain ⟨p5, sv4, lv4, rfl, h5⟩ : ∃ p5 sv4 lv4, e = .returned (.tuple #[.pointer (some ⟨p5, 0, none⟩), .int .i64 0]) ∧ Rep w4.heap.size p5 sv4 lv4 T w5 := by
        rcases hor with ⟨p5, sv4, lv4, T5, hT5, he, h5⟩ | ⟨hT5, _⟩
        · cases hT5
          exact ⟨p5, sv4, lv4, he, h5⟩
        · cases hT5
      clear hor
      have HB5 := Lib.hid (HB4.out.trans (hb5.mono HB4.out.size))
      have HR5 := Lib.hid h5
      have J4 := Lib.hid ((F4.out.ext hb4).ext hb5)
      have J7 := Lib.hid ((F7.out.ext hb4).ext hb5)
      have hw45 : w3.heap.size ≤ w4.heap.size := hb4.size
      have HX5 := Lib.hid (show ∀ b, E b → w5.heap[b]? = w.heap[b]? from fun b hb => ((hb5.block b (Nat.lt_of_lt_of_le (OX3.out b hb).1 hb4.size)).trans (hb4.block b (OX3.out b hb).1)).trans (HX3.out b hb))
      have OX5 := Lib.hid (show ∀ b, E b → Out p5 sv4 lv4 w5 b from fun b hb => by
        have hl := (OX3.out b hb).1
        have hl4 := hb4.size
        have hl5 := hb5.size
        exact ⟨by omega, by have := h5.ge; omega, fun e => by have := (h5.2.2.1.lt _ e).1; omega, fun e => by have := (h5.2.2.2.lt _ e).1; omega⟩)
      clear HX3 OX3
      have P5 := Lib.hid (show Out p5 sv4 lv4 w5 (G0 + 1 + 1) from ⟨J7.out.lt, by have := h5.ge; have := F7.out.lt; omega, fun e => by have := (h5.2.2.1.lt _ e).1; have := F7.out.lt; omega, fun e => by have := (h5.2.2.2.lt _ e).1; have := F7.out.lt; omega⟩)
      have HN5 := Lib.hid (show RefN (PG E p5 sv4 lv4 (G0 + 1 + 1)) T (.slice SA T.ses.length sc) (.slice A T.lea.length c) w5 from (HREF.out.mono (N' := PG E p5 sv4 lv4 (G0 + 1 + 1)) (fun b hb hn => by
        have hz := HB4.out.size
        rcases hn with (hn | hn | hn) | hn | hn
        · exfalso; have := h5.ge; omega
        · exfalso; have := (h5.2.2.1.lt _ hn).1; omega
        · exfalso; have := (h5.2.2.2.lt _ hn).1; omega
        · exact .inr hn
        · exfalso; have := HG0.out; omega)).ext HB5.out)
      have BD5 := Lib.hid (show Below D w w5 from HB5.out.mono hD)
      have hD5 : D ≤ w5.heap.size := by have := HB5.out.size; omega
      have hDB4 : D ≤ w4.heap.size := by have := HB4.out.size; omega
      have HINV2 := Lib.hid (show InvP (k + 1) T from hinv.mono)
      clear h5 hb4 hb5
      have q4 := J4.out.cell
      have l4 := J4.out.lt
      have q7 := J7.out.cell
      have y7 := J7.out.free
      have l7 := J7.out.lt
      go_wp2_with fail
      go_region
      simp only [Exit.inBlock, Exit.then]
      go_step
      go_wp2_with (with_reducible refine stop_at ?_)
      unfold StopAt
      clear q7 y7 l7 q4 l4
      generalize hw9 : World.drew _ = w9
      have R9 := Lib.hid (show Rep w4.heap.size p5 sv4 lv4 T w9 by
        rw [← hw9]
        refine Rep.ext ?_ (Below.refl _ _).drew
        exact (((((HR5.out.off P5.out 0 _).off (P5.out.off _ 0 _) 1 _).off ((P5.out.off _ 0 _).off _ 1 _) 2 _).off (((P5.out.off _ 0 _).off _ 1 _).off _ 2 _) 3 _).off ((((P5.out.off _ 0 _).off _ 1 _).off _ 2 _).off _ 3 _) 4 _))
      have X9 := Lib.hid (show Held w9 (G0 + 1 + 1) [.int .i64 T.now, .int .i64 T.ls, .int .i64 T.lf, .slice SA T.ses.length sc, .slice A T.lea.length c] by
        rw [← hw9]
        exact ((((((J7.out.set 0 _).set 1 _).set 2 _).set 3 _).set 4 _)).ext (Below.refl _ _).drew)
      have N9 := Lib.hid (show RefN (PG E p5 sv4 lv4 (G0 + 1 + 1)) T (.slice SA T.ses.length sc) (.slice A T.lea.length c) w9 by
        rw [← hw9]
        exact ((((((HN5.out.put (.inr (.inr rfl)) 0 _).put (.inr (.inr rfl)) 1 _).put (.inr (.inr rfl)) 2 _).put (.inr (.inr rfl)) 3 _).put (.inr (.inr rfl)) 4 _)).ext (Below.refl _ _).drew)
      have HX9 := Lib.hid (show ∀ b, E b → w9.heap[b]? = w.heap[b]? from fun b hb => by
        rw [← hw9]
        exact (five_kept (HXG.out b hb) _ _ _ _ _).trans (HX5.out b hb))
      have OX9 := Lib.hid (show ∀ b, E b → Out p5 sv4 lv4 w9 b from fun b hb => by
        rw [← hw9]
        exact Out.ext (((((((OX5.out b hb).off _ 0 _).off _ 1 _).off _ 2 _).off _ 3 _).off _ 4 _)) (Below.refl _ _).drew)
      have BD9 := Lib.hid (show Below D w w9 by
        rw [← hw9]
        exact ((((((BD5.out.setCell (p := ⟨G0 + 1 + 1, 0, none⟩) HDG.out _).setCell (p := ⟨G0 + 1 + 1, 1, none⟩) HDG.out _).setCell (p := ⟨G0 + 1 + 1, 2, none⟩) HDG.out _).setCell (p := ⟨G0 + 1 + 1, 3, none⟩) HDG.out _).setCell (p := ⟨G0 + 1 + 1, 4, none⟩) HDG.out _)).drew)
      have r0 : w9.cell? ⟨G0 + 1 + 1, 0, none⟩ = some (.int .i64 T.now) := X9.out.cell 0
      have r1 : w9.cell? ⟨G0 + 1 + 1, 1, none⟩ = some (.int .i64 T.ls) := X9.out.cell 1
      have r2 : w9.cell? ⟨G0 + 1 + 1, 2, none⟩ = some (.int .i64 T.lf) := X9.out.cell 2
      have r3 : w9.cell? ⟨G0 + 1 + 1, 3, none⟩ = some (.slice SA T.ses.length sc) := X9.out.cell 3
      have r4 : w9.cell? ⟨G0 + 1 + 1, 4, none⟩ = some (.slice A T.lea.length c) := X9.out.cell 4
      refine bodyPost_ret (by simp [results, Tryz.results11, r0, r1, r2, r3, r4, go_sem]; try rfl) rfl ?_
      exact ⟨p5, T, _, _, rfl, ⟨⟨w4.heap.size, sv4, lv4, hDB4, R9.out, N9.out.mono (fun b _ h => h.elim .inl (fun e => .inr (.inl e))), OX9.out⟩, HINV2.out⟩, BD9.out, HX9.out⟩
  · rcases hm8 with hm | hm | hm | hm | hm | hm | hm | hm
    · have HM := Lib.hid hm
      have e0 : (kd.tmod 8 == 0) = true := by rw [hm]; rfl
      clear hm hkd hl1 hl2
      go_enter Tryz.func11, Tryz.ntmps11
      go_wp2_with fail
      rw [← hG0]
      generalize hw3 : World.alloc _ _ = w3
      have F4 := Lib.hid (show Held w3 G0 [.int .i64 T.now, .int .i64 T.ls, .int .i64 T.lf, .slice SA T.ses.length sc, .slice A T.lea.length c] by rw [← hw3]; exact ((Held.new hG0).alloc _).alloc _)
      have F5 := Lib.hid (show Held w3 (G0 + 1) [.int .u8 kd, .bool true, .int .i64 l, .int .i64 u, .int .i64 f, .string s] by rw [← hw3]; exact (Held.new (by simp [hG0])).alloc _)
      have F7 := Lib.hid (show Held w3 (G0 + 1 + 1) [.int .i64 0, .int .i64 0, .int .i64 0, .slice none 0 0, .slice none 0 0] by rw [← hw3]; exact Held.new (by simp [hG0]))
      have B3 := Lib.hid (show Below w.heap.size w w3 by rw [← hw3]; exact (((Below.refl _ _).alloc (Nat.le_refl _) _).alloc (by simp) _).alloc (by simp; omega) _)
      have HOF : ∀ g, w.heap.size ≤ g → g < w3.heap.size → Out p sv lv w3 g := fun g h1 h2 => HREP.out.out_new h1 h2
      have HR3 := Lib.hid (HREP.out.ext B3.out)
      have O4 := Lib.hid (HOF G0 (by omega) F4.out.lt)
      have O5 := Lib.hid (HOF (G0 + 1) (by omega) F5.out.lt)
      have O7 := Lib.hid (HOF (G0 + 1 + 1) (by omega) F7.out.lt)
      have HN3 := Lib.hid (show RefN (PG E p sv lv (G0 + 1 + 1)) T (.slice SA T.ses.length sc) (.slice A T.lea.length c) w3 from (HREF.out.mono (N' := PG E p sv lv (G0 + 1 + 1)) (fun b hb hn => hn.elim .inl (fun e => e.elim .inr (fun e => by omega)))).ext B3.out)
      have BD3 := Lib.hid (show Below D w w3 from B3.out.mono hD)
      have HDG := Lib.hid (show D ≤ G0 + 1 + 1 by omega)
      have hD3 : D ≤ w3.heap.size := by have := F7.out.lt; omega
      have OX3 := Lib.hid (show ∀ b, E b → Out p sv lv w3 b from fun b hb => (OX.out b hb).ext B3.out)
      have HX3 := Lib.hid (show ∀ b, E b → w3.heap[b]? = w.heap[b]? from fun b hb => B3.out.block b (OX.out b hb).1)
      have HXG := Lib.hid (show ∀ b, E b → b ≠ G0 + 1 + 1 from fun b hb => by have := (OX.out b hb).1; omega)
      clear hw3 HOF hG0 OX
      obtain ⟨nw, hnw⟩ : ∃ nw, nw = l := ⟨_, rfl⟩
      subst hnw
      have HINV2 := Lib.hid (show InvP (k + 1) (openR T nw).1 from hinv.opened hk)
      have HP := Lib.hid (open_any B p sv lv T nw w3 HR3.out HL.out.1 HLS.out.1 HLS.out.2)
      have HQ := Lib.hid (fun sv4 lv4 w4 (HR4 : Hid (Rep B p sv4 lv4 (openR T nw).1 w4)) (HN4 : Hid (RefN (PG E p sv4 lv4 (G0 + 1 + 1)) T (.slice SA T.ses.length sc) (.slice A T.lea.length c) w4)) (OX4 : Hid (∀ b, E b → b < w4.heap.size)) (K7 : Hid (Held w4 (G0 + 1 + 1) [.int .i64 0, .int .i64 0, .int .i64 0, .slice none 0 0, .slice none 0 0])) => openr_any _ T _ _ nw w4 HN4.out (PG.lt HR4.out OX4.out K7.out.lt) HL.out.1 HL.out.2 HLS.out.1 HLS.out.2)
      generalize (openR T nw).1 = T2 at *
      generalize (openR T nw).2.1 = a0 at *
      have u0 : (a0 == a0) = true := by simp
      generalize (openR T nw).2.2 = a1 at *
      have u1 : (a1 == a1) = true := by simp
      refine HP.out.mono ?_
      rintro e w4 ⟨rfl, sv4, lv4, h4, f4⟩
      have HR4 := Lib.hid h4
      have HN4 := Lib.hid (HN3.out.met f4)
      have K4 := Lib.hid (f4.held F4.out O4.out)
      have K5 := Lib.hid (f4.held F5.out O5.out)
      have K7 := Lib.hid (f4.held F7.out O7.out)
      have P7 := Lib.hid (f4.out O7.out)
      have HX4 := Lib.hid (show ∀ b, E b → w4.heap[b]? = w.heap[b]? from fun b hb => (f4.heap (OX3.out b hb)).trans (HX3.out b hb))
      have OX4 := Lib.hid (show ∀ b, E b → Out p sv4 lv4 w4 b from fun b hb => f4.out (OX3.out b hb))
      clear HX3 OX3
      have BD4 := Lib.hid (BD3.out.trans (f4.below.mono hDB))
      have hD4 : D ≤ w4.heap.size := by have := f4.below.size; omega
      have HQ4 := Lib.hid (HQ.out sv4 lv4 w4 HR4 HN4 (Lib.hid fun b hb => (OX4.out b hb).1) K7)
      clear h4 f4 O4 F4 O5 F5 HQ HP
      have q := K4.out.cell
      have hlt := K4.out.lt
      have q5 := K5.out.cell
      have hlt5 := K5.out.lt
      go_wp2_with fail
      refine HQ4.out.mono ?_
      rintro e w5 ⟨⟨sr5, lr5, rfl, hr5⟩, hb5⟩
      have HN5 := Lib.hid hr5
      obtain ⟨⟨S5, c5, rfl, _, _, _, _⟩, L5, d5, rfl, _, _, _, _⟩ := hr5
      have HR5 := Lib.hid (HR4.out.ext hb5)
      have J7 := Lib.hid (K7.out.ext hb5)
      have P5 := Lib.hid (P7.out.ext hb5)
      have HX5 := Lib.hid (show ∀ b, E b → w5.heap[b]? = w.heap[b]? from fun b hb => (hb5.block b (OX4.out b hb).1).trans (HX4.out b hb))
      have OX5 := Lib.hid (show ∀ b, E b → Out p sv4 lv4 w5 b from fun b hb => (OX4.out b hb).ext hb5)
      clear HX4 OX4
      have BD5 := Lib.hid (BD4.out.trans (hb5.mono hD4))
      have hD5 : D ≤ w5.heap.size := by have := hb5.size; omega
      clear hb5 q hlt q5 hlt5 HQ4
      have q7 := J7.out.cell
      have y7 := J7.out.free
      have l7 := J7.out.lt
      go_wp2_with fail
      go_region
      simp only [Exit.inBlock, Exit.then]
      go_step
      go_wp2_with (with_reducible refine stop_at ?_)
      unfold StopAt
      clear q7 y7 l7
      generalize hw9 : World.drew _ = w9
      have R9 := Lib.hid (show Rep B p sv4 lv4 T2 w9 by
        rw [← hw9]
        refine Rep.ext (Rep.ext ?_ (below_one _ _)) (Below.refl _ _).drew
        exact (((((HR5.out.off P5.out 0 _).off (P5.out.off _ 0 _) 1 _).off ((P5.out.off _ 0 _).off _ 1 _) 2 _).off (((P5.out.off _ 0 _).off _ 1 _).off _ 2 _) 3 _).off ((((P5.out.off _ 0 _).off _ 1 _).off _ 2 _).off _ 3 _) 4 _))
      have X9 := Lib.hid (show Held w9 (G0 + 1 + 1) [.int .i64 T2.now, .int .i64 T2.ls, .int .i64 T2.lf, .slice S5 T2.ses.length c5, .slice L5 T2.lea.length d5] by
        rw [← hw9]
        exact ((((((J7.out.set 0 _).set 1 _).set 2 _).set 3 _).set 4 _).alloc _).ext (Below.refl _ _).drew)
      have N9 := Lib.hid (show RefN (PG E p sv4 lv4 (G0 + 1 + 1)) T2 (.slice S5 T2.ses.length c5) (.slice L5 T2.lea.length d5) w9 by
        rw [← hw9]
        exact ((((((HN5.out.put (.inr (.inr rfl)) 0 _).put (.inr (.inr rfl)) 1 _).put (.inr (.inr rfl)) 2 _).put (.inr (.inr rfl)) 3 _).put (.inr (.inr rfl)) 4 _).ext (below_one _ _)).ext (Below.refl _ _).drew)
      have HX9 := Lib.hid (show ∀ b, E b → w9.heap[b]? = w.heap[b]? from fun b hb => by
        rw [← hw9]
        exact (((below_one _ _).block b (by have := (OX5.out b hb).1; simpa using this)).trans (five_kept (HXG.out b hb) _ _ _ _ _)).trans (HX5.out b hb))
      have OX9 := Lib.hid (show ∀ b, E b → Out p sv4 lv4 w9 b from fun b hb => by
        rw [← hw9]
        exact Out.ext (((((((OX5.out b hb).off _ 0 _).off _ 1 _).off _ 2 _).off _ 3 _).off _ 4 _).al) (Below.refl _ _).drew)
      have BD9 := Lib.hid (show Below D w w9 by
        rw [← hw9]
        exact ((((((BD5.out.setCell (p := ⟨G0 + 1 + 1, 0, none⟩) HDG.out _).setCell (p := ⟨G0 + 1 + 1, 1, none⟩) HDG.out _).setCell (p := ⟨G0 + 1 + 1, 2, none⟩) HDG.out _).setCell (p := ⟨G0 + 1 + 1, 3, none⟩) HDG.out _).setCell (p := ⟨G0 + 1 + 1, 4, none⟩) HDG.out _).alloc (by simpa using hD5) _).drew)
      have r0 : w9.cell? ⟨G0 + 1 + 1, 0, none⟩ = some (.int .i64 T2.now) := X9.out.cell 0
      have r1 : w9.cell? ⟨G0 + 1 + 1, 1, none⟩ = some (.int .i64 T2.ls) := X9.out.cell 1
      have r2 : w9.cell? ⟨G0 + 1 + 1, 2, none⟩ = some (.int .i64 T2.lf) := X9.out.cell 2
      have r3 : w9.cell? ⟨G0 + 1 + 1, 3, none⟩ = some (.slice S5 T2.ses.length c5) := X9.out.cell 3
      have r4 : w9.cell? ⟨G0 + 1 + 1, 4, none⟩ = some (.slice L5 T2.lea.length d5) := X9.out.cell 4
      refine bodyPost_ret (by simp [results, Tryz.results11, r0, r1, r2, r3, r4, go_sem]; try rfl) rfl ?_
      exact ⟨p, T2, _, _, rfl, ⟨⟨B, sv4, lv4, hDB, R9.out, N9.out.mono (fun b _ h => h.elim .inl (fun e => .inr (.inl e))), OX9.out⟩, HINV2.out⟩, BD9.out, HX9.out⟩
    · have HM := Lib.hid hm
      have e0 : (kd.tmod 8 == 0) = false := by rw [hm]; rfl
      have e1 : (kd.tmod 8 == 1) = true := by rw [hm]; rfl
      clear hm hkd hl1 hl2
      go_enter Tryz.func11, Tryz.ntmps11
      go_wp2_with fail
      rw [← hG0]
      generalize hw3 : World.alloc _ _ = w3
      have F4 := Lib.hid (show Held w3 G0 [.int .i64 T.now, .int .i64 T.ls, .int .i64 T.lf, .slice SA T.ses.length sc, .slice A T.lea.length c] by rw [← hw3]; exact ((Held.new hG0).alloc _).alloc _)
      have F5 := Lib.hid (show Held w3 (G0 + 1) [.int .u8 kd, .bool true, .int .i64 l, .int .i64 u, .int .i64 f, .string s] by rw [← hw3]; exact (Held.new (by simp [hG0])).alloc _)
      have F7 := Lib.hid (show Held w3 (G0 + 1 + 1) [.int .i64 0, .int .i64 0, .int .i64 0, .slice none 0 0, .slice none 0 0] by rw [← hw3]; exact Held.new (by simp [hG0]))
      have B3 := Lib.hid (show Below w.heap.size w w3 by rw [← hw3]; exact (((Below.refl _ _).alloc (Nat.le_refl _) _).alloc (by simp) _).alloc (by simp; omega) _)
      have HOF : ∀ g, w.heap.size ≤ g → g < w3.heap.size → Out p sv lv w3 g := fun g h1 h2 => HREP.out.out_new h1 h2
      have HR3 := Lib.hid (HREP.out.ext B3.out)
      have O4 := Lib.hid (HOF G0 (by omega) F4.out.lt)
      have O5 := Lib.hid (HOF (G0 + 1) (by omega) F5.out.lt)
      have O7 := Lib.hid (HOF (G0 + 1 + 1) (by omega) F7.out.lt)
      have HN3 := Lib.hid (show RefN (PG E p sv lv (G0 + 1 + 1)) T (.slice SA T.ses.length sc) (.slice A T.lea.length c) w3 from (HREF.out.mono (N' := PG E p sv lv (G0 + 1 + 1)) (fun b hb hn => hn.elim .inl (fun e => e.elim .inr (fun e => by omega)))).ext B3.out)
      have BD3 := Lib.hid (show Below D w w3 from B3.out.mono hD)
      have HDG := Lib.hid (show D ≤ G0 + 1 + 1 by omega)
      have hD3 : D ≤ w3.heap.size := by have := F7.out.lt; omega
      have OX3 := Lib.hid (show ∀ b, E b → Out p sv lv w3 b from fun b hb => (OX.out b hb).ext B3.out)
      have HX3 := Lib.hid (show ∀ b, E b → w3.heap[b]? = w.heap[b]? from fun b hb => B3.out.block b (OX.out b hb).1)
      have HXG := Lib.hid (show ∀ b, E b → b ≠ G0 + 1 + 1 from fun b hb => by have := (OX.out b hb).1; omega)
      clear hw3 HOF hG0 OX
      obtain ⟨nw, hnw⟩ : ∃ nw, nw = l := ⟨_, rfl⟩
      subst hnw
      have HINV2 := Lib.hid (show InvP (k + 1) (closeR T nw u).1 from hinv.closed)
      have HP := Lib.hid (close_any B p sv lv T nw u w3 HR3.out HL.out.1 HL.out.2 hinv.snd.nodup)
      have HQ := Lib.hid (fun sv4 lv4 w4 (HR4 : Hid (Rep B p sv4 lv4 (closeR T nw u).1 w4)) (HN4 : Hid (RefN (PG E p sv4 lv4 (G0 + 1 + 1)) T (.slice SA T.ses.length sc) (.slice A T.lea.length c) w4)) (OX4 : Hid (∀ b, E b → b < w4.heap.size)) (K7 : Hid (Held w4 (G0 + 1 + 1) [.int .i64 0, .int .i64 0, .int .i64 0, .slice none 0 0, .slice none 0 0])) => closer_any _ T _ _ nw u w4 HN4.out (PG.lt HR4.out OX4.out K7.out.lt) HL.out.1 HL.out.2)
      generalize (closeR T nw u).1 = T2 at *
      generalize (closeR T nw u).2 = a0 at *
      have u0 : (a0 == a0) = true := by simp
      refine HP.out.mono ?_
      rintro e w4 ⟨rfl, sv4, lv4, h4, f4⟩
      have HR4 := Lib.hid h4
      have HN4 := Lib.hid (HN3.out.met f4)
      have K4 := Lib.hid (f4.held F4.out O4.out)
      have K5 := Lib.hid (f4.held F5.out O5.out)
      have K7 := Lib.hid (f4.held F7.out O7.out)
      have P7 := Lib.hid (f4.out O7.out)
      have HX4 := Lib.hid (show ∀ b, E b → w4.heap[b]? = w.heap[b]? from fun b hb => (f4.heap (OX3.out b hb)).trans (HX3.out b hb))
      have OX4 := Lib.hid (show ∀ b, E b → Out p sv4 lv4 w4 b from fun b hb => f4.out (OX3.out b hb))
      clear HX3 OX3
      have BD4 := Lib.hid (BD3.out.trans (f4.below.mono hDB))
      have hD4 : D ≤ w4.heap.size := by have := f4.below.size; omega
      have HQ4 := Lib.hid (HQ.out sv4 lv4 w4 HR4 HN4 (Lib.hid fun b hb => (OX4.out b hb).1) K7)
      clear h4 f4 O4 F4 O5 F5 HQ HP
      have q := K4.out.cell
      have hlt := K4.out.lt
      have q5 := K5.out.cell
      have hlt5 := K5.out.lt
      go_wp2_with fail
      refine HQ4.out.mono ?_
      rintro e w5 ⟨⟨sr5, lr5, rfl, hr5⟩, hb5⟩
      have HN5 := Lib.hid hr5
      obtain ⟨⟨S5, c5, rfl, _, _, _, _⟩, L5, d5, rfl, _, _, _, _⟩ := hr5
      have HR5 := Lib.hid (HR4.out.ext hb5)
      have J7 := Lib.hid (K7.out.ext hb5)
      have P5 := Lib.hid (P7.out.ext hb5)
      have HX5 := Lib.hid (show ∀ b, E b → w5.heap[b]? = w.heap[b]? from fun b hb => (hb5.block b (OX4.out b hb).1).trans (HX4.out b hb))
      have OX5 := Lib.hid (show ∀ b, E b → Out p sv4 lv4 w5 b from fun b hb => (OX4.out b hb).ext hb5)
      clear HX4 OX4
      have BD5 := Lib.hid (BD4.out.trans (hb5.mono hD4))
      have hD5 : D ≤ w5.heap.size := by have := hb5.size; omega
      clear hb5 q hlt q5 hlt5 HQ4
      have q7 := J7.out.cell
      have y7 := J7.out.free
      have l7 := J7.out.lt
      go_wp2_with fail
      go_region
      simp only [Exit.inBlock, Exit.then]
      go_step
      go_wp2_with (with_reducible refine stop_at ?_)
      unfold StopAt
      clear q7 y7 l7
      generalize hw9 : World.drew _ = w9
      have R9 := Lib.hid (show Rep B p sv4 lv4 T2 w9 by
        rw [← hw9]
        refine Rep.ext (Rep.ext ?_ (below_one _ _)) (Below.refl _ _).drew
        exact (((((HR5.out.off P5.out 0 _).off (P5.out.off _ 0 _) 1 _).off ((P5.out.off _ 0 _).off _ 1 _) 2 _).off (((P5.out.off _ 0 _).off _ 1 _).off _ 2 _) 3 _).off ((((P5.out.off _ 0 _).off _ 1 _).off _ 2 _).off _ 3 _) 4 _))
      have X9 := Lib.hid (show Held w9 (G0 + 1 + 1) [.int .i64 T2.now, .int .i64 T2.ls, .int .i64 T2.lf, .slice S5 T2.ses.length c5, .slice L5 T2.lea.length d5] by
        rw [← hw9]
        exact ((((((J7.out.set 0 _).set 1 _).set 2 _).set 3 _).set 4 _).alloc _).ext (Below.refl _ _).drew)
      have N9 := Lib.hid (show RefN (PG E p sv4 lv4 (G0 + 1 + 1)) T2 (.slice S5 T2.ses.length c5) (.slice L5 T2.lea.length d5) w9 by
        rw [← hw9]
        exact ((((((HN5.out.put (.inr (.inr rfl)) 0 _).put (.inr (.inr rfl)) 1 _).put (.inr (.inr rfl)) 2 _).put (.inr (.inr rfl)) 3 _).put (.inr (.inr rfl)) 4 _).ext (below_one _ _)).ext (Below.refl _ _).drew)
      have HX9 := Lib.hid (show ∀ b, E b → w9.heap[b]? = w.heap[b]? from fun b hb => by
        rw [← hw9]
        exact (((below_one _ _).block b (by have := (OX5.out b hb).1; simpa using this)).trans (five_kept (HXG.out b hb) _ _ _ _ _)).trans (HX5.out b hb))
      have OX9 := Lib.hid (show ∀ b, E b → Out p sv4 lv4 w9 b from fun b hb => by
        rw [← hw9]
        exact Out.ext (((((((OX5.out b hb).off _ 0 _).off _ 1 _).off _ 2 _).off _ 3 _).off _ 4 _).al) (Below.refl _ _).drew)
      have BD9 := Lib.hid (show Below D w w9 by
        rw [← hw9]
        exact ((((((BD5.out.setCell (p := ⟨G0 + 1 + 1, 0, none⟩) HDG.out _).setCell (p := ⟨G0 + 1 + 1, 1, none⟩) HDG.out _).setCell (p := ⟨G0 + 1 + 1, 2, none⟩) HDG.out _).setCell (p := ⟨G0 + 1 + 1, 3, none⟩) HDG.out _).setCell (p := ⟨G0 + 1 + 1, 4, none⟩) HDG.out _).alloc (by simpa using hD5) _).drew)
      have r0 : w9.cell? ⟨G0 + 1 + 1, 0, none⟩ = some (.int .i64 T2.now) := X9.out.cell 0
      have r1 : w9.cell? ⟨G0 + 1 + 1, 1, none⟩ = some (.int .i64 T2.ls) := X9.out.cell 1
      have r2 : w9.cell? ⟨G0 + 1 + 1, 2, none⟩ = some (.int .i64 T2.lf) := X9.out.cell 2
      have r3 : w9.cell? ⟨G0 + 1 + 1, 3, none⟩ = some (.slice S5 T2.ses.length c5) := X9.out.cell 3
      have r4 : w9.cell? ⟨G0 + 1 + 1, 4, none⟩ = some (.slice L5 T2.lea.length d5) := X9.out.cell 4
      refine bodyPost_ret (by simp [results, Tryz.results11, r0, r1, r2, r3, r4, go_sem]; try rfl) rfl ?_
      exact ⟨p, T2, _, _, rfl, ⟨⟨B, sv4, lv4, hDB, R9.out, N9.out.mono (fun b _ h => h.elim .inl (fun e => .inr (.inl e))), OX9.out⟩, HINV2.out⟩, BD9.out, HX9.out⟩
    · have HM := Lib.hid hm
      have e0 : (kd.tmod 8 == 0) = false := by rw [hm]; rfl
      have e1 : (kd.tmod 8 == 1) = false := by rw [hm]; rfl
      have e2 : (kd.tmod 8 == 2) = true := by rw [hm]; rfl
      clear hm hkd hl1 hl2
      go_enter Tryz.func11, Tryz.ntmps11
      go_wp2_with fail
      rw [← hG0]
      generalize hw3 : World.alloc _ _ = w3
      have F4 := Lib.hid (show Held w3 G0 [.int .i64 T.now, .int .i64 T.ls, .int .i64 T.lf, .slice SA T.ses.length sc, .slice A T.lea.length c] by rw [← hw3]; exact ((Held.new hG0).alloc _).alloc _)
      have F5 := Lib.hid (show Held w3 (G0 + 1) [.int .u8 kd, .bool true, .int .i64 l, .int .i64 u, .int .i64 f, .string s] by rw [← hw3]; exact (Held.new (by simp [hG0])).alloc _)
      have F7 := Lib.hid (show Held w3 (G0 + 1 + 1) [.int .i64 0, .int .i64 0, .int .i64 0, .slice none 0 0, .slice none 0 0] by rw [← hw3]; exact Held.new (by simp [hG0]))
      have B3 := Lib.hid (show Below w.heap.size w w3 by rw [← hw3]; exact (((Below.refl _ _).alloc (Nat.le_refl _) _).alloc (by simp) _).alloc (by simp; omega) _)
      have HOF : ∀ g, w.heap.size ≤ g → g < w3.heap.size → Out p sv lv w3 g := fun g h1 h2 => HREP.out.out_new h1 h2
      have HR3 := Lib.hid (HREP.out.ext B3.out)
      have O4 := Lib.hid (HOF G0 (by omega) F4.out.lt)
      have O5 := Lib.hid (HOF (G0 + 1) (by omega) F5.out.lt)
      have O7 := Lib.hid (HOF (G0 + 1 + 1) (by omega) F7.out.lt)
      have HN3 := Lib.hid (show RefN (PG E p sv lv (G0 + 1 + 1)) T (.slice SA T.ses.length sc) (.slice A T.lea.length c) w3 from (HREF.out.mono (N' := PG E p sv lv (G0 + 1 + 1)) (fun b hb hn => hn.elim .inl (fun e => e.elim .inr (fun e => by omega)))).ext B3.out)
      have BD3 := Lib.hid (show Below D w w3 from B3.out.mono hD)
      have HDG := Lib.hid (show D ≤ G0 + 1 + 1 by omega)
      have hD3 : D ≤ w3.heap.size := by have := F7.out.lt; omega
      have OX3 := Lib.hid (show ∀ b, E b → Out p sv lv w3 b from fun b hb => (OX.out b hb).ext B3.out)
      have HX3 := Lib.hid (show ∀ b, E b → w3.heap[b]? = w.heap[b]? from fun b hb => B3.out.block b (OX.out b hb).1)
      have HXG := Lib.hid (show ∀ b, E b → b ≠ G0 + 1 + 1 from fun b hb => by have := (OX.out b hb).1; omega)
      clear hw3 HOF hG0 OX
      obtain ⟨nw, hnw⟩ : ∃ nw, nw = l := ⟨_, rfl⟩
      subst hnw
      rw [HC.out]
      have HINV2 := Lib.hid (show InvP (k + 1) (takeR T nw u (s.data.toList.take 20)).1 from hinv.taken hk)
      have HP := Lib.hid (take_any B p sv lv T nw u (s.data.toList.take 20) w3 HR3.out hinv.snd.asc2 HL.out.1 HL.out.2 HLF.out.1 HLF.out.2)
      have HQ := Lib.hid (fun sv4 lv4 w4 (HR4 : Hid (Rep B p sv4 lv4 (takeR T nw u (s.data.toList.take 20)).1 w4)) (HN4 : Hid (RefN (PG E p sv4 lv4 (G0 + 1 + 1)) T (.slice SA T.ses.length sc) (.slice A T.lea.length c) w4)) (OX4 : Hid (∀ b, E b → b < w4.heap.size)) (K7 : Hid (Held w4 (G0 + 1 + 1) [.int .i64 0, .int .i64 0, .int .i64 0, .slice none 0 0, .slice none 0 0])) => taker_any _ T _ _ nw u (s.data.toList.take 20) w4 HN4.out (PG.lt HR4.out OX4.out K7.out.lt) hinv.snd.asc2 HL.out.1 HL.out.2 HLF.out.1 HLF.out.2)
      generalize (takeR T nw u (s.data.toList.take 20)).1 = T2 at *
      generalize (takeR T nw u (s.data.toList.take 20)).2.1 = a0 at *
      have u0 : (a0 == a0) = true := by simp
      generalize (takeR T nw u (s.data.toList.take 20)).2.2 = a1 at *
      have u1 : (a1 == a1) = true := by simp
      refine HP.out.mono ?_
      rintro e w4 ⟨rfl, sv4, lv4, h4, f4⟩
      have HR4 := Lib.hid h4
      have HN4 := Lib.hid (HN3.out.met f4)
      have K4 := Lib.hid (f4.held F4.out O4.out)
      have K5 := Lib.hid (f4.held F5.out O5.out)
      have K7 := Lib.hid (f4.held F7.out O7.out)
      have P7 := Lib.hid (f4.out O7.out)
      have HX4 := Lib.hid (show ∀ b, E b → w4.heap[b]? = w.heap[b]? from fun b hb => (f4.heap (OX3.out b hb)).trans (HX3.out b hb))
      have OX4 := Lib.hid (show ∀ b, E b → Out p sv4 lv4 w4 b from fun b hb => f4.out (OX3.out b hb))
      clear HX3 OX3
      have BD4 := Lib.hid (BD3.out.trans (f4.below.mono hDB))
      have hD4 : D ≤ w4.heap.size := by have := f4.below.size; omega
      have HQ4 := Lib.hid (HQ.out sv4 lv4 w4 HR4 HN4 (Lib.hid fun b hb => (OX4.out b hb).1) K7)
      clear h4 f4 O4 F4 O5 F5 HQ HP
      have q := K4.out.cell
      have hlt := K4.out.lt
      have q5 := K5.out.cell
      have hlt5 := K5.out.lt
      go_wp2_with fail
      refine HQ4.out.mono ?_
      rintro e w5 ⟨⟨sr5, lr5, rfl, hr5⟩, hb5⟩
      have HN5 := Lib.hid hr5
      obtain ⟨⟨S5, c5, rfl, _, _, _, _⟩, L5, d5, rfl, _, _, _, _⟩ := hr5
      have HR5 := Lib.hid (HR4.out.ext hb5)
      have J7 := Lib.hid (K7.out.ext hb5)
      have P5 := Lib.hid (P7.out.ext hb5)
      have HX5 := Lib.hid (show ∀ b, E b → w5.heap[b]? = w.heap[b]? from fun b hb => (hb5.block b (OX4.out b hb).1).trans (HX4.out b hb))
      have OX5 := Lib.hid (show ∀ b, E b → Out p sv4 lv4 w5 b from fun b hb => (OX4.out b hb).ext hb5)
      clear HX4 OX4
      have BD5 := Lib.hid (BD4.out.trans (hb5.mono hD4))
      have hD5 : D ≤ w5.heap.size := by have := hb5.size; omega
      clear hb5 q hlt q5 hlt5 HQ4
      have q7 := J7.out.cell
      have y7 := J7.out.free
      have l7 := J7.out.lt
      go_wp2_with fail
      go_region
      simp only [Exit.inBlock, Exit.then]
      go_step
      go_wp2_with (with_reducible refine stop_at ?_)
      unfold StopAt
      clear q7 y7 l7
      generalize hw9 : World.drew _ = w9
      have R9 := Lib.hid (show Rep B p sv4 lv4 T2 w9 by
        rw [← hw9]
        refine Rep.ext (Rep.ext ?_ (below_one _ _)) (Below.refl _ _).drew
        exact (((((HR5.out.off P5.out 0 _).off (P5.out.off _ 0 _) 1 _).off ((P5.out.off _ 0 _).off _ 1 _) 2 _).off (((P5.out.off _ 0 _).off _ 1 _).off _ 2 _) 3 _).off ((((P5.out.off _ 0 _).off _ 1 _).off _ 2 _).off _ 3 _) 4 _))
      have X9 := Lib.hid (show Held w9 (G0 + 1 + 1) [.int .i64 T2.now, .int .i64 T2.ls, .int .i64 T2.lf, .slice S5 T2.ses.length c5, .slice L5 T2.lea.length d5] by
        rw [← hw9]
        exact ((((((J7.out.set 0 _).set 1 _).set 2 _).set 3 _).set 4 _).alloc _).ext (Below.refl _ _).drew)
      have N9 := Lib.hid (show RefN (PG E p sv4 lv4 (G0 + 1 + 1)) T2 (.slice S5 T2.ses.length c5) (.slice L5 T2.lea.length d5) w9 by
        rw [← hw9]
        exact ((((((HN5.out.put (.inr (.inr rfl)) 0 _).put (.inr (.inr rfl)) 1 _).put (.inr (.inr rfl)) 2 _).put (.inr (.inr rfl)) 3 _).put (.inr (.inr rfl)) 4 _).ext (below_one _ _)).ext (Below.refl _ _).drew)
      have HX9 := Lib.hid (show ∀ b, E b → w9.heap[b]? = w.heap[b]? from fun b hb => by
        rw [← hw9]
        exact (((below_one _ _).block b (by have := (OX5.out b hb).1; simpa using this)).trans (five_kept (HXG.out b hb) _ _ _ _ _)).trans (HX5.out b hb))
      have OX9 := Lib.hid (show ∀ b, E b → Out p sv4 lv4 w9 b from fun b hb => by
        rw [← hw9]
        exact Out.ext (((((((OX5.out b hb).off _ 0 _).off _ 1 _).off _ 2 _).off _ 3 _).off _ 4 _).al) (Below.refl _ _).drew)
      have BD9 := Lib.hid (show Below D w w9 by
        rw [← hw9]
        exact ((((((BD5.out.setCell (p := ⟨G0 + 1 + 1, 0, none⟩) HDG.out _).setCell (p := ⟨G0 + 1 + 1, 1, none⟩) HDG.out _).setCell (p := ⟨G0 + 1 + 1, 2, none⟩) HDG.out _).setCell (p := ⟨G0 + 1 + 1, 3, none⟩) HDG.out _).setCell (p := ⟨G0 + 1 + 1, 4, none⟩) HDG.out _).alloc (by simpa using hD5) _).drew)
      have r0 : w9.cell? ⟨G0 + 1 + 1, 0, none⟩ = some (.int .i64 T2.now) := X9.out.cell 0
      have r1 : w9.cell? ⟨G0 + 1 + 1, 1, none⟩ = some (.int .i64 T2.ls) := X9.out.cell 1
      have r2 : w9.cell? ⟨G0 + 1 + 1, 2, none⟩ = some (.int .i64 T2.lf) := X9.out.cell 2
      have r3 : w9.cell? ⟨G0 + 1 + 1, 3, none⟩ = some (.slice S5 T2.ses.length c5) := X9.out.cell 3
      have r4 : w9.cell? ⟨G0 + 1 + 1, 4, none⟩ = some (.slice L5 T2.lea.length d5) := X9.out.cell 4
      refine bodyPost_ret (by simp [results, Tryz.results11, r0, r1, r2, r3, r4, go_sem]; try rfl) rfl ?_
      exact ⟨p, T2, _, _, rfl, ⟨⟨B, sv4, lv4, hDB, R9.out, N9.out.mono (fun b _ h => h.elim .inl (fun e => .inr (.inl e))), OX9.out⟩, HINV2.out⟩, BD9.out, HX9.out⟩
    · have HM := Lib.hid hm
      have e0 : (kd.tmod 8 == 0) = false := by rw [hm]; rfl
      have e1 : (kd.tmod 8 == 1) = false := by rw [hm]; rfl
      have e2 : (kd.tmod 8 == 2) = false := by rw [hm]; rfl
      have e3 : (kd.tmod 8 == 3) = true := by rw [hm]; rfl
      clear hm hkd hl1 hl2
      go_enter Tryz.func11, Tryz.ntmps11
      go_wp2_with fail
      rw [← hG0]
      generalize hw3 : World.alloc _ _ = w3
      have F4 := Lib.hid (show Held w3 G0 [.int .i64 T.now, .int .i64 T.ls, .int .i64 T.lf, .slice SA T.ses.length sc, .slice A T.lea.length c] by rw [← hw3]; exact ((Held.new hG0).alloc _).alloc _)
      have F5 := Lib.hid (show Held w3 (G0 + 1) [.int .u8 kd, .bool true, .int .i64 l, .int .i64 u, .int .i64 f, .string s] by rw [← hw3]; exact (Held.new (by simp [hG0])).alloc _)
      have F7 := Lib.hid (show Held w3 (G0 + 1 + 1) [.int .i64 0, .int .i64 0, .int .i64 0, .slice none 0 0, .slice none 0 0] by rw [← hw3]; exact Held.new (by simp [hG0]))
      have B3 := Lib.hid (show Below w.heap.size w w3 by rw [← hw3]; exact (((Below.refl _ _).alloc (Nat.le_refl _) _).alloc (by simp) _).alloc (by simp; omega) _)
      have HOF : ∀ g, w.heap.size ≤ g → g < w3.heap.size → Out p sv lv w3 g := fun g h1 h2 => HREP.out.out_new h1 h2
      have HR3 := Lib.hid (HREP.out.ext B3.out)
      have O4 := Lib.hid (HOF G0 (by omega) F4.out.lt)
      have O5 := Lib.hid (HOF (G0 + 1) (by omega) F5.out.lt)
      have O7 := Lib.hid (HOF (G0 + 1 + 1) (by omega) F7.out.lt)
      have HN3 := Lib.hid (show RefN (PG E p sv lv (G0 + 1 + 1)) T (.slice SA T.ses.length sc) (.slice A T.lea.length c) w3 from (HREF.out.mono (N' := PG E p sv lv (G0 + 1 + 1)) (fun b hb hn => hn.elim .inl (fun e => e.elim .inr (fun e => by omega)))).ext B3.out)
      have BD3 := Lib.hid (show Below D w w3 from B3.out.mono hD)
      have HDG := Lib.hid (show D ≤ G0 + 1 + 1 by omega)
      have hD3 : D ≤ w3.heap.size := by have := F7.out.lt; omega
      have OX3 := Lib.hid (show ∀ b, E b → Out p sv lv w3 b from fun b hb => (OX.out b hb).ext B3.out)
      have HX3 := Lib.hid (show ∀ b, E b → w3.heap[b]? = w.heap[b]? from fun b hb => B3.out.block b (OX.out b hb).1)
      have HXG := Lib.hid (show ∀ b, E b → b ≠ G0 + 1 + 1 from fun b hb => by have := (OX.out b hb).1; omega)
      clear hw3 HOF hG0 OX
      obtain ⟨nw, hnw⟩ : ∃ nw, nw = l := ⟨_, rfl⟩
      subst hnw
      rw [HC.out]
      have HINV2 := Lib.hid (show InvP (k + 1) (takeR T nw u (s.data.toList.take 20)).1 from hinv.taken hk)
      have HP := Lib.hid (take_any B p sv lv T nw u (s.data.toList.take 20) w3 HR3.out hinv.snd.asc2 HL.out.1 HL.out.2 HLF.out.1 HLF.out.2)
      have HQ := Lib.hid (fun sv4 lv4 w4 (HR4 : Hid (Rep B p sv4 lv4 (takeR T nw u (s.data.toList.take 20)).1 w4)) (HN4 : Hid (RefN (PG E p sv4 lv4 (G0 + 1 + 1)) T (.slice SA T.ses.length sc) (.slice A T.lea.length c) w4)) (OX4 : Hid (∀ b, E b → b < w4.heap.size)) (K7 : Hid (Held w4 (G0 + 1 + 1) [.int .i64 0, .int .i64 0, .int .i64 0, .slice none 0 0, .slice none 0 0])) => taker_any _ T _ _ nw u (s.data.toList.take 20) w4 HN4.out (PG.lt HR4.out OX4.out K7.out.lt) hinv.snd.asc2 HL.out.1 HL.out.2 HLF.out.1 HLF.out.2)
      generalize (takeR T nw u (s.data.toList.take 20)).1 = T2 at *
      generalize (takeR T nw u (s.data.toList.take 20)).2.1 = a0 at *
      have u0 : (a0 == a0) = true := by simp
      generalize (takeR T nw u (s.data.toList.take 20)).2.2 = a1 at *
      have u1 : (a1 == a1) = true := by simp
      refine HP.out.mono ?_
      rintro e w4 ⟨rfl, sv4, lv4, h4, f4⟩
      have HR4 := Lib.hid h4
      have HN4 := Lib.hid (HN3.out.met f4)
      have K4 := Lib.hid (f4.held F4.out O4.out)
      have K5 := Lib.hid (f4.held F5.out O5.out)
      have K7 := Lib.hid (f4.held F7.out O7.out)
      have P7 := Lib.hid (f4.out O7.out)
      have HX4 := Lib.hid (show ∀ b, E b → w4.heap[b]? = w.heap[b]? from fun b hb => (f4.heap (OX3.out b hb)).trans (HX3.out b hb))
      have OX4 := Lib.hid (show ∀ b, E b → Out p sv4 lv4 w4 b from fun b hb => f4.out (OX3.out b hb))
      clear HX3 OX3
      have BD4 := Lib.hid (BD3.out.trans (f4.below.mono hDB))
      have hD4 : D ≤ w4.heap.size := by have := f4.below.size; omega
      have HQ4 := Lib.hid (HQ.out sv4 lv4 w4 HR4 HN4 (Lib.hid fun b hb => (OX4.out b hb).1) K7)
      clear h4 f4 O4 F4 O5 F5 HQ HP
      have q := K4.out.cell
      have hlt := K4.out.lt
      have q5 := K5.out.cell
      have hlt5 := K5.out.lt
      go_wp2_with fail
      refine HQ4.out.mono ?_
      rintro e w5 ⟨⟨sr5, lr5, rfl, hr5⟩, hb5⟩
      have HN5 := Lib.hid hr5
      obtain ⟨⟨S5, c5, rfl, _, _, _, _⟩, L5, d5, rfl, _, _, _, _⟩ := hr5
      have HR5 := Lib.hid (HR4.out.ext hb5)
      have J7 := Lib.hid (K7.out.ext hb5)
      have P5 := Lib.hid (P7.out.ext hb5)
      have HX5 := Lib.hid (show ∀ b, E b → w5.heap[b]? = w.heap[b]? from fun b hb => (hb5.block b (OX4.out b hb).1).trans (HX4.out b hb))
      have OX5 := Lib.hid (show ∀ b, E b → Out p sv4 lv4 w5 b from fun b hb => (OX4.out b hb).ext hb5)
      clear HX4 OX4
      have BD5 := Lib.hid (BD4.out.trans (hb5.mono hD4))
      have hD5 : D ≤ w5.heap.size := by have := hb5.size; omega
      clear hb5 q hlt q5 hlt5 HQ4
      have q7 := J7.out.cell
      have y7 := J7.out.free
      have l7 := J7.out.lt
      go_wp2_with fail
      go_region
      simp only [Exit.inBlock, Exit.then]
      go_step
      go_wp2_with (with_reducible refine stop_at ?_)
      unfold StopAt
      clear q7 y7 l7
      generalize hw9 : World.drew _ = w9
      have R9 := Lib.hid (show Rep B p sv4 lv4 T2 w9 by
        rw [← hw9]
        refine Rep.ext (Rep.ext ?_ (below_one _ _)) (Below.refl _ _).drew
        exact (((((HR5.out.off P5.out 0 _).off (P5.out.off _ 0 _) 1 _).off ((P5.out.off _ 0 _).off _ 1 _) 2 _).off (((P5.out.off _ 0 _).off _ 1 _).off _ 2 _) 3 _).off ((((P5.out.off _ 0 _).off _ 1 _).off _ 2 _).off _ 3 _) 4 _))
      have X9 := Lib.hid (show Held w9 (G0 + 1 + 1) [.int .i64 T2.now, .int .i64 T2.ls, .int .i64 T2.lf, .slice S5 T2.ses.length c5, .slice L5 T2.lea.length d5] by
        rw [← hw9]
        exact ((((((J7.out.set 0 _).set 1 _).set 2 _).set 3 _).set 4 _).alloc _).ext (Below.refl _ _).drew)
      have N9 := Lib.hid (show RefN (PG E p sv4 lv4 (G0 + 1 + 1)) T2 (.slice S5 T2.ses.length c5) (.slice L5 T2.lea.length d5) w9 by
        rw [← hw9]
        exact ((((((HN5.out.put (.inr (.inr rfl)) 0 _).put (.inr (.inr rfl)) 1 _).put (.inr (.inr rfl)) 2 _).put (.inr (.inr rfl)) 3 _).put (.inr (.inr rfl)) 4 _).ext (below_one _ _)).ext (Below.refl _ _).drew)
      have HX9 := Lib.hid (show ∀ b, E b → w9.heap[b]? = w.heap[b]? from fun b hb => by
        rw [← hw9]
        exact (((below_one _ _).block b (by have := (OX5.out b hb).1; simpa using this)).trans (five_kept (HXG.out b hb) _ _ _ _ _)).trans (HX5.out b hb))
      have OX9 := Lib.hid (show ∀ b, E b → Out p sv4 lv4 w9 b from fun b hb => by
        rw [← hw9]
        exact Out.ext (((((((OX5.out b hb).off _ 0 _).off _ 1 _).off _ 2 _).off _ 3 _).off _ 4 _).al) (Below.refl _ _).drew)
      have BD9 := Lib.hid (show Below D w w9 by
        rw [← hw9]
        exact ((((((BD5.out.setCell (p := ⟨G0 + 1 + 1, 0, none⟩) HDG.out _).setCell (p := ⟨G0 + 1 + 1, 1, none⟩) HDG.out _).setCell (p := ⟨G0 + 1 + 1, 2, none⟩) HDG.out _).setCell (p := ⟨G0 + 1 + 1, 3, none⟩) HDG.out _).setCell (p := ⟨G0 + 1 + 1, 4, none⟩) HDG.out _).alloc (by simpa using hD5) _).drew)
      have r0 : w9.cell? ⟨G0 + 1 + 1, 0, none⟩ = some (.int .i64 T2.now) := X9.out.cell 0
      have r1 : w9.cell? ⟨G0 + 1 + 1, 1, none⟩ = some (.int .i64 T2.ls) := X9.out.cell 1
      have r2 : w9.cell? ⟨G0 + 1 + 1, 2, none⟩ = some (.int .i64 T2.lf) := X9.out.cell 2
      have r3 : w9.cell? ⟨G0 + 1 + 1, 3, none⟩ = some (.slice S5 T2.ses.length c5) := X9.out.cell 3
      have r4 : w9.cell? ⟨G0 + 1 + 1, 4, none⟩ = some (.slice L5 T2.lea.length d5) := X9.out.cell 4
      refine bodyPost_ret (by simp [results, Tryz.results11, r0, r1, r2, r3, r4, go_sem]; try rfl) rfl ?_
      exact ⟨p, T2, _, _, rfl, ⟨⟨B, sv4, lv4, hDB, R9.out, N9.out.mono (fun b _ h => h.elim .inl (fun e => .inr (.inl e))), OX9.out⟩, HINV2.out⟩, BD9.out, HX9.out⟩
    · have HM := Lib.hid hm
      have e0 : (kd.tmod 8 == 0) = false := by rw [hm]; rfl
      have e1 : (kd.tmod 8 == 1) = false := by rw [hm]; rfl
      have e2 : (kd.tmod 8 == 2) = false := by rw [hm]; rfl
      have e3 : (kd.tmod 8 == 3) = false := by rw [hm]; rfl
      have e4 : (kd.tmod 8 == 4) = true := by rw [hm]; rfl
      clear hm hkd hl1 hl2
      go_enter Tryz.func11, Tryz.ntmps11
      go_wp2_with fail
      rw [← hG0]
      generalize hw3 : World.alloc _ _ = w3
      have F4 := Lib.hid (show Held w3 G0 [.int .i64 T.now, .int .i64 T.ls, .int .i64 T.lf, .slice SA T.ses.length sc, .slice A T.lea.length c] by rw [← hw3]; exact ((Held.new hG0).alloc _).alloc _)
      have F5 := Lib.hid (show Held w3 (G0 + 1) [.int .u8 kd, .bool true, .int .i64 l, .int .i64 u, .int .i64 f, .string s] by rw [← hw3]; exact (Held.new (by simp [hG0])).alloc _)
      have F7 := Lib.hid (show Held w3 (G0 + 1 + 1) [.int .i64 0, .int .i64 0, .int .i64 0, .slice none 0 0, .slice none 0 0] by rw [← hw3]; exact Held.new (by simp [hG0]))
      have B3 := Lib.hid (show Below w.heap.size w w3 by rw [← hw3]; exact (((Below.refl _ _).alloc (Nat.le_refl _) _).alloc (by simp) _).alloc (by simp; omega) _)
      have HOF : ∀ g, w.heap.size ≤ g → g < w3.heap.size → Out p sv lv w3 g := fun g h1 h2 => HREP.out.out_new h1 h2
      have HR3 := Lib.hid (HREP.out.ext B3.out)
      have O4 := Lib.hid (HOF G0 (by omega) F4.out.lt)
      have O5 := Lib.hid (HOF (G0 + 1) (by omega) F5.out.lt)
      have O7 := Lib.hid (HOF (G0 + 1 + 1) (by omega) F7.out.lt)
      have HN3 := Lib.hid (show RefN (PG E p sv lv (G0 + 1 + 1)) T (.slice SA T.ses.length sc) (.slice A T.lea.length c) w3 from (HREF.out.mono (N' := PG E p sv lv (G0 + 1 + 1)) (fun b hb hn => hn.elim .inl (fun e => e.elim .inr (fun e => by omega)))).ext B3.out)
      have BD3 := Lib.hid (show Below D w w3 from B3.out.mono hD)
      have HDG := Lib.hid (show D ≤ G0 + 1 + 1 by omega)
      have hD3 : D ≤ w3.heap.size := by have := F7.out.lt; omega
      have OX3 := Lib.hid (show ∀ b, E b → Out p sv lv w3 b from fun b hb => (OX.out b hb).ext B3.out)
      have HX3 := Lib.hid (show ∀ b, E b → w3.heap[b]? = w.heap[b]? from fun b hb => B3.out.block b (OX.out b hb).1)
      have HXG := Lib.hid (show ∀ b, E b → b ≠ G0 + 1 + 1 from fun b hb => by have := (OX.out b hb).1; omega)
      clear hw3 HOF hG0 OX
      obtain ⟨nw, hnw⟩ : ∃ nw, nw = l := ⟨_, rfl⟩
      subst hnw
      rw [HC.out]
      have HINV2 := Lib.hid (show InvP (k + 1) (renewT T nw u (s.data.toList.take 20) f) from hinv.renewed)
      have HP := Lib.hid (renew_any B p sv lv T nw u (s.data.toList.take 20) f w3 HR3.out hinv.snd.asc2 HL.out.1)
      have HQ := Lib.hid (fun sv4 lv4 w4 (HR4 : Hid (Rep B p sv4 lv4 (renewT T nw u (s.data.toList.take 20) f) w4)) (HN4 : Hid (RefN (PG E p sv4 lv4 (G0 + 1 + 1)) T (.slice SA T.ses.length sc) (.slice A T.lea.length c) w4)) (OX4 : Hid (∀ b, E b → b < w4.heap.size)) (K7 : Hid (Held w4 (G0 + 1 + 1) [.int .i64 0, .int .i64 0, .int .i64 0, .slice none 0 0, .slice none 0 0])) => renewr_any _ T _ _ nw u (s.data.toList.take 20) f w4 HN4.out (PG.lt HR4.out OX4.out K7.out.lt) hinv.snd.asc2 HL.out.1)
      generalize (renewT T nw u (s.data.toList.take 20) f) = T2 at *
      generalize (heldE T nw u (s.data.toList.take 20) f) = a0 at *
      have u0 : (a0 == a0) = true := by simp
      refine HP.out.mono ?_
      rintro e w4 ⟨rfl, sv4, lv4, h4, f4⟩
      have HR4 := Lib.hid h4
      have HN4 := Lib.hid (HN3.out.met f4)
      have K4 := Lib.hid (f4.held F4.out O4.out)
      have K5 := Lib.hid (f4.held F5.out O5.out)
      have K7 := Lib.hid (f4.held F7.out O7.out)
      have P7 := Lib.hid (f4.out O7.out)
      have HX4 := Lib.hid (show ∀ b, E b → w4.heap[b]? = w.heap[b]? from fun b hb => (f4.heap (OX3.out b hb)).trans (HX3.out b hb))
      have OX4 := Lib.hid (show ∀ b, E b → Out p sv4 lv4 w4 b from fun b hb => f4.out (OX3.out b hb))
      clear HX3 OX3
      have BD4 := Lib.hid (BD3.out.trans (f4.below.mono hDB))
      have hD4 : D ≤ w4.heap.size := by have := f4.below.size; omega
      have HQ4 := Lib.hid (HQ.out sv4 lv4 w4 HR4 HN4 (Lib.hid fun b hb => (OX4.out b hb).1) K7)
      clear h4 f4 O4 F4 O5 F5 HQ HP
      have q := K4.out.cell
      have hlt := K4.out.lt
      have q5 := K5.out.cell
      have hlt5 := K5.out.lt
      go_wp2_with fail
      refine HQ4.out.mono ?_
      rintro e w5 ⟨⟨sr5, lr5, rfl, hr5⟩, hb5⟩
      have HN5 := Lib.hid hr5
      obtain ⟨⟨S5, c5, rfl, _, _, _, _⟩, L5, d5, rfl, _, _, _, _⟩ := hr5
      have HR5 := Lib.hid (HR4.out.ext hb5)
      have J7 := Lib.hid (K7.out.ext hb5)
      have P5 := Lib.hid (P7.out.ext hb5)
      have HX5 := Lib.hid (show ∀ b, E b → w5.heap[b]? = w.heap[b]? from fun b hb => (hb5.block b (OX4.out b hb).1).trans (HX4.out b hb))
      have OX5 := Lib.hid (show ∀ b, E b → Out p sv4 lv4 w5 b from fun b hb => (OX4.out b hb).ext hb5)
      clear HX4 OX4
      have BD5 := Lib.hid (BD4.out.trans (hb5.mono hD4))
      have hD5 : D ≤ w5.heap.size := by have := hb5.size; omega
      clear hb5 q hlt q5 hlt5 HQ4
      have q7 := J7.out.cell
      have y7 := J7.out.free
      have l7 := J7.out.lt
      go_wp2_with fail
      go_region
      simp only [Exit.inBlock, Exit.then]
      go_step
      go_wp2_with (with_reducible refine stop_at ?_)
      unfold StopAt
      clear q7 y7 l7
      generalize hw9 : World.drew _ = w9
      have R9 := Lib.hid (show Rep B p sv4 lv4 T2 w9 by
        rw [← hw9]
        refine Rep.ext (Rep.ext ?_ (below_one _ _)) (Below.refl _ _).drew
        exact (((((HR5.out.off P5.out 0 _).off (P5.out.off _ 0 _) 1 _).off ((P5.out.off _ 0 _).off _ 1 _) 2 _).off (((P5.out.off _ 0 _).off _ 1 _).off _ 2 _) 3 _).off ((((P5.out.off _ 0 _).off _ 1 _).off _ 2 _).off _ 3 _) 4 _))
      have X9 := Lib.hid (show Held w9 (G0 + 1 + 1) [.int .i64 T2.now, .int .i64 T2.ls, .int .i64 T2.lf, .slice S5 T2.ses.length c5, .slice L5 T2.lea.length d5] by
        rw [← hw9]
        exact ((((((J7.out.set 0 _).set 1 _).set 2 _).set 3 _).set 4 _).alloc _).ext (Below.refl _ _).drew)
      have N9 := Lib.hid (show RefN (PG E p sv4 lv4 (G0 + 1 + 1)) T2 (.slice S5 T2.ses.length c5) (.slice L5 T2.lea.length d5) w9 by
        rw [← hw9]
        exact ((((((HN5.out.put (.inr (.inr rfl)) 0 _).put (.inr (.inr rfl)) 1 _).put (.inr (.inr rfl)) 2 _).put (.inr (.inr rfl)) 3 _).put (.inr (.inr rfl)) 4 _).ext (below_one _ _)).ext (Below.refl _ _).drew)
      have HX9 := Lib.hid (show ∀ b, E b → w9.heap[b]? = w.heap[b]? from fun b hb => by
        rw [← hw9]
        exact (((below_one _ _).block b (by have := (OX5.out b hb).1; simpa using this)).trans (five_kept (HXG.out b hb) _ _ _ _ _)).trans (HX5.out b hb))
      have OX9 := Lib.hid (show ∀ b, E b → Out p sv4 lv4 w9 b from fun b hb => by
        rw [← hw9]
        exact Out.ext (((((((OX5.out b hb).off _ 0 _).off _ 1 _).off _ 2 _).off _ 3 _).off _ 4 _).al) (Below.refl _ _).drew)
      have BD9 := Lib.hid (show Below D w w9 by
        rw [← hw9]
        exact ((((((BD5.out.setCell (p := ⟨G0 + 1 + 1, 0, none⟩) HDG.out _).setCell (p := ⟨G0 + 1 + 1, 1, none⟩) HDG.out _).setCell (p := ⟨G0 + 1 + 1, 2, none⟩) HDG.out _).setCell (p := ⟨G0 + 1 + 1, 3, none⟩) HDG.out _).setCell (p := ⟨G0 + 1 + 1, 4, none⟩) HDG.out _).alloc (by simpa using hD5) _).drew)
      have r0 : w9.cell? ⟨G0 + 1 + 1, 0, none⟩ = some (.int .i64 T2.now) := X9.out.cell 0
      have r1 : w9.cell? ⟨G0 + 1 + 1, 1, none⟩ = some (.int .i64 T2.ls) := X9.out.cell 1
      have r2 : w9.cell? ⟨G0 + 1 + 1, 2, none⟩ = some (.int .i64 T2.lf) := X9.out.cell 2
      have r3 : w9.cell? ⟨G0 + 1 + 1, 3, none⟩ = some (.slice S5 T2.ses.length c5) := X9.out.cell 3
      have r4 : w9.cell? ⟨G0 + 1 + 1, 4, none⟩ = some (.slice L5 T2.lea.length d5) := X9.out.cell 4
      refine bodyPost_ret (by simp [results, Tryz.results11, r0, r1, r2, r3, r4, go_sem]; try rfl) rfl ?_
      exact ⟨p, T2, _, _, rfl, ⟨⟨B, sv4, lv4, hDB, R9.out, N9.out.mono (fun b _ h => h.elim .inl (fun e => .inr (.inl e))), OX9.out⟩, HINV2.out⟩, BD9.out, HX9.out⟩
    · have HM := Lib.hid hm
      have e0 : (kd.tmod 8 == 0) = false := by rw [hm]; rfl
      have e1 : (kd.tmod 8 == 1) = false := by rw [hm]; rfl
      have e2 : (kd.tmod 8 == 2) = false := by rw [hm]; rfl
      have e3 : (kd.tmod 8 == 3) = false := by rw [hm]; rfl
      have e4 : (kd.tmod 8 == 4) = false := by rw [hm]; rfl
      have e5 : (kd.tmod 8 == 5) = true := by rw [hm]; rfl
      clear hm hkd hl1 hl2
      go_enter Tryz.func11, Tryz.ntmps11
      go_wp2_with fail
      rw [← hG0]
      generalize hw3 : World.alloc _ _ = w3
      have F4 := Lib.hid (show Held w3 G0 [.int .i64 T.now, .int .i64 T.ls, .int .i64 T.lf, .slice SA T.ses.length sc, .slice A T.lea.length c] by rw [← hw3]; exact ((Held.new hG0).alloc _).alloc _)
      have F5 := Lib.hid (show Held w3 (G0 + 1) [.int .u8 kd, .bool true, .int .i64 l, .int .i64 u, .int .i64 f, .string s] by rw [← hw3]; exact (Held.new (by simp [hG0])).alloc _)
      have F7 := Lib.hid (show Held w3 (G0 + 1 + 1) [.int .i64 0, .int .i64 0, .int .i64 0, .slice none 0 0, .slice none 0 0] by rw [← hw3]; exact Held.new (by simp [hG0]))
      have B3 := Lib.hid (show Below w.heap.size w w3 by rw [← hw3]; exact (((Below.refl _ _).alloc (Nat.le_refl _) _).alloc (by simp) _).alloc (by simp; omega) _)
      have HOF : ∀ g, w.heap.size ≤ g → g < w3.heap.size → Out p sv lv w3 g := fun g h1 h2 => HREP.out.out_new h1 h2
      have HR3 := Lib.hid (HREP.out.ext B3.out)
      have O4 := Lib.hid (HOF G0 (by omega) F4.out.lt)
      have O5 := Lib.hid (HOF (G0 + 1) (by omega) F5.out.lt)
      have O7 := Lib.hid (HOF (G0 + 1 + 1) (by omega) F7.out.lt)
      have HN3 := Lib.hid (show RefN (PG E p sv lv (G0 + 1 + 1)) T (.slice SA T.ses.length sc) (.slice A T.lea.length c) w3 from (HREF.out.mono (N' := PG E p sv lv (G0 + 1 + 1)) (fun b hb hn => hn.elim .inl (fun e => e.elim .inr (fun e => by omega)))).ext B3.out)
      have BD3 := Lib.hid (show Below D w w3 from B3.out.mono hD)
      have HDG := Lib.hid (show D ≤ G0 + 1 + 1 by omega)
      have hD3 : D ≤ w3.heap.size := by have := F7.out.lt; omega
      have OX3 := Lib.hid (show ∀ b, E b → Out p sv lv w3 b from fun b hb => (OX.out b hb).ext B3.out)
      have HX3 := Lib.hid (show ∀ b, E b → w3.heap[b]? = w.heap[b]? from fun b hb => B3.out.block b (OX.out b hb).1)
      have HXG := Lib.hid (show ∀ b, E b → b ≠ G0 + 1 + 1 from fun b hb => by have := (OX.out b hb).1; omega)
      clear hw3 HOF hG0 OX
      obtain ⟨nw, hnw⟩ : ∃ nw, nw = l := ⟨_, rfl⟩
      subst hnw
      rw [HC.out]
      have HINV2 := Lib.hid (show InvP (k + 1) (releaseT T nw u (s.data.toList.take 20) f) from hinv.released)
      have HP := Lib.hid (release_any B p sv lv T nw u (s.data.toList.take 20) f w3 HR3.out hinv.snd.asc2 HL.out.1)
      have HQ := Lib.hid (fun sv4 lv4 w4 (HR4 : Hid (Rep B p sv4 lv4 (releaseT T nw u (s.data.toList.take 20) f) w4)) (HN4 : Hid (RefN (PG E p sv4 lv4 (G0 + 1 + 1)) T (.slice SA T.ses.length sc) (.slice A T.lea.length c) w4)) (OX4 : Hid (∀ b, E b → b < w4.heap.size)) (K7 : Hid (Held w4 (G0 + 1 + 1) [.int .i64 0, .int .i64 0, .int .i64 0, .slice none 0 0, .slice none 0 0])) => releaser_any _ T _ _ nw u (s.data.toList.take 20) f w4 HN4.out (PG.lt HR4.out OX4.out K7.out.lt) hinv.snd.asc2 HL.out.1)
      generalize (releaseT T nw u (s.data.toList.take 20) f) = T2 at *
      generalize (heldE T nw u (s.data.toList.take 20) f) = a0 at *
      have u0 : (a0 == a0) = true := by simp
      refine HP.out.mono ?_
      rintro e w4 ⟨rfl, sv4, lv4, h4, f4⟩
      have HR4 := Lib.hid h4
      have HN4 := Lib.hid (HN3.out.met f4)
      have K4 := Lib.hid (f4.held F4.out O4.out)
      have K5 := Lib.hid (f4.held F5.out O5.out)
      have K7 := Lib.hid (f4.held F7.out O7.out)
      have P7 := Lib.hid (f4.out O7.out)
      have HX4 := Lib.hid (show ∀ b, E b → w4.heap[b]? = w.heap[b]? from fun b hb => (f4.heap (OX3.out b hb)).trans (HX3.out b hb))
      have OX4 := Lib.hid (show ∀ b, E b → Out p sv4 lv4 w4 b from fun b hb => f4.out (OX3.out b hb))
      clear HX3 OX3
      have BD4 := Lib.hid (BD3.out.trans (f4.below.mono hDB))
      have hD4 : D ≤ w4.heap.size := by have := f4.below.size; omega
      have HQ4 := Lib.hid (HQ.out sv4 lv4 w4 HR4 HN4 (Lib.hid fun b hb => (OX4.out b hb).1) K7)
      clear h4 f4 O4 F4 O5 F5 HQ HP
      have q := K4.out.cell
      have hlt := K4.out.lt
      have q5 := K5.out.cell
      have hlt5 := K5.out.lt
      go_wp2_with fail
      refine HQ4.out.mono ?_
      rintro e w5 ⟨⟨sr5, lr5, rfl, hr5⟩, hb5⟩
      have HN5 := Lib.hid hr5
      obtain ⟨⟨S5, c5, rfl, _, _, _, _⟩, L5, d5, rfl, _, _, _, _⟩ := hr5
      have HR5 := Lib.hid (HR4.out.ext hb5)
      have J7 := Lib.hid (K7.out.ext hb5)
      have P5 := Lib.hid (P7.out.ext hb5)
      have HX5 := Lib.hid (show ∀ b, E b → w5.heap[b]? = w.heap[b]? from fun b hb => (hb5.block b (OX4.out b hb).1).trans (HX4.out b hb))
      have OX5 := Lib.hid (show ∀ b, E b → Out p sv4 lv4 w5 b from fun b hb => (OX4.out b hb).ext hb5)
      clear HX4 OX4
      have BD5 := Lib.hid (BD4.out.trans (hb5.mono hD4))
      have hD5 : D ≤ w5.heap.size := by have := hb5.size; omega
      clear hb5 q hlt q5 hlt5 HQ4
      have q7 := J7.out.cell
      have y7 := J7.out.free
      have l7 := J7.out.lt
      go_wp2_with fail
      go_region
      simp only [Exit.inBlock, Exit.then]
      go_step
      go_wp2_with (with_reducible refine stop_at ?_)
      unfold StopAt
      clear q7 y7 l7
      generalize hw9 : World.drew _ = w9
      have R9 := Lib.hid (show Rep B p sv4 lv4 T2 w9 by
        rw [← hw9]
        refine Rep.ext (Rep.ext ?_ (below_one _ _)) (Below.refl _ _).drew
        exact (((((HR5.out.off P5.out 0 _).off (P5.out.off _ 0 _) 1 _).off ((P5.out.off _ 0 _).off _ 1 _) 2 _).off (((P5.out.off _ 0 _).off _ 1 _).off _ 2 _) 3 _).off ((((P5.out.off _ 0 _).off _ 1 _).off _ 2 _).off _ 3 _) 4 _))
      have X9 := Lib.hid (show Held w9 (G0 + 1 + 1) [.int .i64 T2.now, .int .i64 T2.ls, .int .i64 T2.lf, .slice S5 T2.ses.length c5, .slice L5 T2.lea.length d5] by
        rw [← hw9]
        exact ((((((J7.out.set 0 _).set 1 _).set 2 _).set 3 _).set 4 _).alloc _).ext (Below.refl _ _).drew)
      have N9 := Lib.hid (show RefN (PG E p sv4 lv4 (G0 + 1 + 1)) T2 (.slice S5 T2.ses.length c5) (.slice L5 T2.lea.length d5) w9 by
        rw [← hw9]
        exact ((((((HN5.out.put (.inr (.inr rfl)) 0 _).put (.inr (.inr rfl)) 1 _).put (.inr (.inr rfl)) 2 _).put (.inr (.inr rfl)) 3 _).put (.inr (.inr rfl)) 4 _).ext (below_one _ _)).ext (Below.refl _ _).drew)
      have HX9 := Lib.hid (show ∀ b, E b → w9.heap[b]? = w.heap[b]? from fun b hb => by
        rw [← hw9]
        exact (((below_one _ _).block b (by have := (OX5.out b hb).1; simpa using this)).trans (five_kept (HXG.out b hb) _ _ _ _ _)).trans (HX5.out b hb))
      have OX9 := Lib.hid (show ∀ b, E b → Out p sv4 lv4 w9 b from fun b hb => by
        rw [← hw9]
        exact Out.ext (((((((OX5.out b hb).off _ 0 _).off _ 1 _).off _ 2 _).off _ 3 _).off _ 4 _).al) (Below.refl _ _).drew)
      have BD9 := Lib.hid (show Below D w w9 by
        rw [← hw9]
        exact ((((((BD5.out.setCell (p := ⟨G0 + 1 + 1, 0, none⟩) HDG.out _).setCell (p := ⟨G0 + 1 + 1, 1, none⟩) HDG.out _).setCell (p := ⟨G0 + 1 + 1, 2, none⟩) HDG.out _).setCell (p := ⟨G0 + 1 + 1, 3, none⟩) HDG.out _).setCell (p := ⟨G0 + 1 + 1, 4, none⟩) HDG.out _).alloc (by simpa using hD5) _).drew)
      have r0 : w9.cell? ⟨G0 + 1 + 1, 0, none⟩ = some (.int .i64 T2.now) := X9.out.cell 0
      have r1 : w9.cell? ⟨G0 + 1 + 1, 1, none⟩ = some (.int .i64 T2.ls) := X9.out.cell 1
      have r2 : w9.cell? ⟨G0 + 1 + 1, 2, none⟩ = some (.int .i64 T2.lf) := X9.out.cell 2
      have r3 : w9.cell? ⟨G0 + 1 + 1, 3, none⟩ = some (.slice S5 T2.ses.length c5) := X9.out.cell 3
      have r4 : w9.cell? ⟨G0 + 1 + 1, 4, none⟩ = some (.slice L5 T2.lea.length d5) := X9.out.cell 4
      refine bodyPost_ret (by simp [results, Tryz.results11, r0, r1, r2, r3, r4, go_sem]; try rfl) rfl ?_
      exact ⟨p, T2, _, _, rfl, ⟨⟨B, sv4, lv4, hDB, R9.out, N9.out.mono (fun b _ h => h.elim .inl (fun e => .inr (.inl e))), OX9.out⟩, HINV2.out⟩, BD9.out, HX9.out⟩
    · have HM := Lib.hid hm
      have e0 : (kd.tmod 8 == 0) = false := by rw [hm]; rfl
      have e1 : (kd.tmod 8 == 1) = false := by rw [hm]; rfl
      have e2 : (kd.tmod 8 == 2) = false := by rw [hm]; rfl
      have e3 : (kd.tmod 8 == 3) = false := by rw [hm]; rfl
      have e4 : (kd.tmod 8 == 4) = false := by rw [hm]; rfl
      have e5 : (kd.tmod 8 == 5) = false := by rw [hm]; rfl
      have e6 : (kd.tmod 8 == 6) = true := by rw [hm]; rfl
      clear hm hkd hl1 hl2
      go_enter Tryz.func11, Tryz.ntmps11
      go_wp2_with fail
      rw [← hG0]
      generalize hw3 : World.alloc _ _ = w3
      have F4 := Lib.hid (show Held w3 G0 [.int .i64 T.now, .int .i64 T.ls, .int .i64 T.lf, .slice SA T.ses.length sc, .slice A T.lea.length c] by rw [← hw3]; exact ((Held.new hG0).alloc _).alloc _)
      have F5 := Lib.hid (show Held w3 (G0 + 1) [.int .u8 kd, .bool true, .int .i64 l, .int .i64 u, .int .i64 f, .string s] by rw [← hw3]; exact (Held.new (by simp [hG0])).alloc _)
      have F7 := Lib.hid (show Held w3 (G0 + 1 + 1) [.int .i64 0, .int .i64 0, .int .i64 0, .slice none 0 0, .slice none 0 0] by rw [← hw3]; exact Held.new (by simp [hG0]))
      have B3 := Lib.hid (show Below w.heap.size w w3 by rw [← hw3]; exact (((Below.refl _ _).alloc (Nat.le_refl _) _).alloc (by simp) _).alloc (by simp; omega) _)
      have HOF : ∀ g, w.heap.size ≤ g → g < w3.heap.size → Out p sv lv w3 g := fun g h1 h2 => HREP.out.out_new h1 h2
      have HR3 := Lib.hid (HREP.out.ext B3.out)
      have O4 := Lib.hid (HOF G0 (by omega) F4.out.lt)
      have O5 := Lib.hid (HOF (G0 + 1) (by omega) F5.out.lt)
      have O7 := Lib.hid (HOF (G0 + 1 + 1) (by omega) F7.out.lt)
      have HN3 := Lib.hid (show RefN (PG E p sv lv (G0 + 1 + 1)) T (.slice SA T.ses.length sc) (.slice A T.lea.length c) w3 from (HREF.out.mono (N' := PG E p sv lv (G0 + 1 + 1)) (fun b hb hn => hn.elim .inl (fun e => e.elim .inr (fun e => by omega)))).ext B3.out)
      have BD3 := Lib.hid (show Below D w w3 from B3.out.mono hD)
      have HDG := Lib.hid (show D ≤ G0 + 1 + 1 by omega)
      have hD3 : D ≤ w3.heap.size := by have := F7.out.lt; omega
      have OX3 := Lib.hid (show ∀ b, E b → Out p sv lv w3 b from fun b hb => (OX.out b hb).ext B3.out)
      have HX3 := Lib.hid (show ∀ b, E b → w3.heap[b]? = w.heap[b]? from fun b hb => B3.out.block b (OX.out b hb).1)
      have HXG := Lib.hid (show ∀ b, E b → b ≠ G0 + 1 + 1 from fun b hb => by have := (OX.out b hb).1; omega)
      clear hw3 HOF hG0 OX
      obtain ⟨nw, hnw⟩ : ∃ nw, nw = l := ⟨_, rfl⟩
      subst hnw
      rw [HC.out]
      have HINV2 := Lib.hid (show InvP (k + 1) (toldT T nw) from hinv.told.mono)
      have HP := Lib.hid (check_any B p sv lv T nw u (s.data.toList.take 20) f w3 HR3.out hinv.snd.asc2 HL.out.1)
      have HQ := Lib.hid (fun sv4 lv4 w4 (HR4 : Hid (Rep B p sv4 lv4 (toldT T nw) w4)) (HN4 : Hid (RefN (PG E p sv4 lv4 (G0 + 1 + 1)) T (.slice SA T.ses.length sc) (.slice A T.lea.length c) w4)) (OX4 : Hid (∀ b, E b → b < w4.heap.size)) (K7 : Hid (Held w4 (G0 + 1 + 1) [.int .i64 0, .int .i64 0, .int .i64 0, .slice none 0 0, .slice none 0 0])) => checkr_any _ T _ _ nw u (s.data.toList.take 20) f w4 HN4.out (PG.lt HR4.out OX4.out K7.out.lt) hinv.snd.asc2 HL.out.1)
      generalize (toldT T nw) = T2 at *
      generalize (heldE T nw u (s.data.toList.take 20) f) = a0 at *
      have u0 : (a0 == a0) = true := by simp
      refine HP.out.mono ?_
      rintro e w4 ⟨rfl, sv4, lv4, h4, f4⟩
      have HR4 := Lib.hid h4
      have HN4 := Lib.hid (HN3.out.met f4)
      have K4 := Lib.hid (f4.held F4.out O4.out)
      have K5 := Lib.hid (f4.held F5.out O5.out)
      have K7 := Lib.hid (f4.held F7.out O7.out)
      have P7 := Lib.hid (f4.out O7.out)
      have HX4 := Lib.hid (show ∀ b, E b → w4.heap[b]? = w.heap[b]? from fun b hb => (f4.heap (OX3.out b hb)).trans (HX3.out b hb))
      have OX4 := Lib.hid (show ∀ b, E b → Out p sv4 lv4 w4 b from fun b hb => f4.out (OX3.out b hb))
      clear HX3 OX3
      have BD4 := Lib.hid (BD3.out.trans (f4.below.mono hDB))
      have hD4 : D ≤ w4.heap.size := by have := f4.below.size; omega
      have HQ4 := Lib.hid (HQ.out sv4 lv4 w4 HR4 HN4 (Lib.hid fun b hb => (OX4.out b hb).1) K7)
      clear h4 f4 O4 F4 O5 F5 HQ HP
      have q := K4.out.cell
      have hlt := K4.out.lt
      have q5 := K5.out.cell
      have hlt5 := K5.out.lt
      go_wp2_with fail
      refine HQ4.out.mono ?_
      rintro e w5 ⟨⟨sr5, lr5, rfl, hr5⟩, hb5⟩
      have HN5 := Lib.hid hr5
      obtain ⟨⟨S5, c5, rfl, _, _, _, _⟩, L5, d5, rfl, _, _, _, _⟩ := hr5
      have HR5 := Lib.hid (HR4.out.ext hb5)
      have J7 := Lib.hid (K7.out.ext hb5)
      have P5 := Lib.hid (P7.out.ext hb5)
      have HX5 := Lib.hid (show ∀ b, E b → w5.heap[b]? = w.heap[b]? from fun b hb => (hb5.block b (OX4.out b hb).1).trans (HX4.out b hb))
      have OX5 := Lib.hid (show ∀ b, E b → Out p sv4 lv4 w5 b from fun b hb => (OX4.out b hb).ext hb5)
      clear HX4 OX4
      have BD5 := Lib.hid (BD4.out.trans (hb5.mono hD4))
      have hD5 : D ≤ w5.heap.size := by have := hb5.size; omega
      clear hb5 q hlt q5 hlt5 HQ4
      have q7 := J7.out.cell
      have y7 := J7.out.free
      have l7 := J7.out.lt
      go_wp2_with fail
      go_region
      simp only [Exit.inBlock, Exit.then]
      go_step
      go_wp2_with (with_reducible refine stop_at ?_)
      unfold StopAt
      clear q7 y7 l7
      generalize hw9 : World.drew _ = w9
      have R9 := Lib.hid (show Rep B p sv4 lv4 T2 w9 by
        rw [← hw9]
        refine Rep.ext (Rep.ext ?_ (below_one _ _)) (Below.refl _ _).drew
        exact (((((HR5.out.off P5.out 0 _).off (P5.out.off _ 0 _) 1 _).off ((P5.out.off _ 0 _).off _ 1 _) 2 _).off (((P5.out.off _ 0 _).off _ 1 _).off _ 2 _) 3 _).off ((((P5.out.off _ 0 _).off _ 1 _).off _ 2 _).off _ 3 _) 4 _))
      have X9 := Lib.hid (show Held w9 (G0 + 1 + 1) [.int .i64 T2.now, .int .i64 T2.ls, .int .i64 T2.lf, .slice S5 T2.ses.length c5, .slice L5 T2.lea.length d5] by
        rw [← hw9]
        exact ((((((J7.out.set 0 _).set 1 _).set 2 _).set 3 _).set 4 _).alloc _).ext (Below.refl _ _).drew)
      have N9 := Lib.hid (show RefN (PG E p sv4 lv4 (G0 + 1 + 1)) T2 (.slice S5 T2.ses.length c5) (.slice L5 T2.lea.length d5) w9 by
        rw [← hw9]
        exact ((((((HN5.out.put (.inr (.inr rfl)) 0 _).put (.inr (.inr rfl)) 1 _).put (.inr (.inr rfl)) 2 _).put (.inr (.inr rfl)) 3 _).put (.inr (.inr rfl)) 4 _).ext (below_one _ _)).ext (Below.refl _ _).drew)
      have HX9 := Lib.hid (show ∀ b, E b → w9.heap[b]? = w.heap[b]? from fun b hb => by
        rw [← hw9]
        exact (((below_one _ _).block b (by have := (OX5.out b hb).1; simpa using this)).trans (five_kept (HXG.out b hb) _ _ _ _ _)).trans (HX5.out b hb))
      have OX9 := Lib.hid (show ∀ b, E b → Out p sv4 lv4 w9 b from fun b hb => by
        rw [← hw9]
        exact Out.ext (((((((OX5.out b hb).off _ 0 _).off _ 1 _).off _ 2 _).off _ 3 _).off _ 4 _).al) (Below.refl _ _).drew)
      have BD9 := Lib.hid (show Below D w w9 by
        rw [← hw9]
        exact ((((((BD5.out.setCell (p := ⟨G0 + 1 + 1, 0, none⟩) HDG.out _).setCell (p := ⟨G0 + 1 + 1, 1, none⟩) HDG.out _).setCell (p := ⟨G0 + 1 + 1, 2, none⟩) HDG.out _).setCell (p := ⟨G0 + 1 + 1, 3, none⟩) HDG.out _).setCell (p := ⟨G0 + 1 + 1, 4, none⟩) HDG.out _).alloc (by simpa using hD5) _).drew)
      have r0 : w9.cell? ⟨G0 + 1 + 1, 0, none⟩ = some (.int .i64 T2.now) := X9.out.cell 0
      have r1 : w9.cell? ⟨G0 + 1 + 1, 1, none⟩ = some (.int .i64 T2.ls) := X9.out.cell 1
      have r2 : w9.cell? ⟨G0 + 1 + 1, 2, none⟩ = some (.int .i64 T2.lf) := X9.out.cell 2
      have r3 : w9.cell? ⟨G0 + 1 + 1, 3, none⟩ = some (.slice S5 T2.ses.length c5) := X9.out.cell 3
      have r4 : w9.cell? ⟨G0 + 1 + 1, 4, none⟩ = some (.slice L5 T2.lea.length d5) := X9.out.cell 4
      refine bodyPost_ret (by simp [results, Tryz.results11, r0, r1, r2, r3, r4, go_sem]; try rfl) rfl ?_
      exact ⟨p, T2, _, _, rfl, ⟨⟨B, sv4, lv4, hDB, R9.out, N9.out.mono (fun b _ h => h.elim .inl (fun e => .inr (.inl e))), OX9.out⟩, HINV2.out⟩, BD9.out, HX9.out⟩
    · have HM := Lib.hid hm
      have e0 : (kd.tmod 8 == 0) = false := by rw [hm]; rfl
      have e1 : (kd.tmod 8 == 1) = false := by rw [hm]; rfl
      have e2 : (kd.tmod 8 == 2) = false := by rw [hm]; rfl
      have e3 : (kd.tmod 8 == 3) = false := by rw [hm]; rfl
      have e4 : (kd.tmod 8 == 4) = false := by rw [hm]; rfl
      have e5 : (kd.tmod 8 == 5) = false := by rw [hm]; rfl
      have e6 : (kd.tmod 8 == 6) = false := by rw [hm]; rfl
      clear hm hkd hl1 hl2
      go_enter Tryz.func11, Tryz.ntmps11
      go_wp2_with fail
      rw [← hG0]
      generalize hw3 : World.alloc _ _ = w3
      have F4 := Lib.hid (show Held w3 G0 [.int .i64 T.now, .int .i64 T.ls, .int .i64 T.lf, .slice SA T.ses.length sc, .slice A T.lea.length c] by rw [← hw3]; exact ((Held.new hG0).alloc _).alloc _)
      have F5 := Lib.hid (show Held w3 (G0 + 1) [.int .u8 kd, .bool true, .int .i64 l, .int .i64 u, .int .i64 f, .string s] by rw [← hw3]; exact (Held.new (by simp [hG0])).alloc _)
      have F7 := Lib.hid (show Held w3 (G0 + 1 + 1) [.int .i64 0, .int .i64 0, .int .i64 0, .slice none 0 0, .slice none 0 0] by rw [← hw3]; exact Held.new (by simp [hG0]))
      have B3 := Lib.hid (show Below w.heap.size w w3 by rw [← hw3]; exact (((Below.refl _ _).alloc (Nat.le_refl _) _).alloc (by simp) _).alloc (by simp; omega) _)
      have HOF : ∀ g, w.heap.size ≤ g → g < w3.heap.size → Out p sv lv w3 g := fun g h1 h2 => HREP.out.out_new h1 h2
      have HR3 := Lib.hid (HREP.out.ext B3.out)
      have O4 := Lib.hid (HOF G0 (by omega) F4.out.lt)
      have O5 := Lib.hid (HOF (G0 + 1) (by omega) F5.out.lt)
      have O7 := Lib.hid (HOF (G0 + 1 + 1) (by omega) F7.out.lt)
      have HN3 := Lib.hid (show RefN (PG E p sv lv (G0 + 1 + 1)) T (.slice SA T.ses.length sc) (.slice A T.lea.length c) w3 from (HREF.out.mono (N' := PG E p sv lv (G0 + 1 + 1)) (fun b hb hn => hn.elim .inl (fun e => e.elim .inr (fun e => by omega)))).ext B3.out)
      have BD3 := Lib.hid (show Below D w w3 from B3.out.mono hD)
      have HDG := Lib.hid (show D ≤ G0 + 1 + 1 by omega)
      have hD3 : D ≤ w3.heap.size := by have := F7.out.lt; omega
      have OX3 := Lib.hid (show ∀ b, E b → Out p sv lv w3 b from fun b hb => (OX.out b hb).ext B3.out)
      have HX3 := Lib.hid (show ∀ b, E b → w3.heap[b]? = w.heap[b]? from fun b hb => B3.out.block b (OX.out b hb).1)
      have HXG := Lib.hid (show ∀ b, E b → b ≠ G0 + 1 + 1 from fun b hb => by have := (OX.out b hb).1; omega)
      clear hw3 HOF hG0 OX
      obtain ⟨nw, hnw⟩ : ∃ nw, nw = l := ⟨_, rfl⟩
      subst hnw
      have HWD := Lib.hid hw
      have HTP := Lib.hid (text_par hinv.snd)
      have HB3 := Lib.hid (show Below w.heap.size w w3 from B3.out)
      refine (text_any B p sv lv T w3 HR3.out (snd_fit hinv.snd) (HWD.out.on HB3.out).tab).mono ?_
      rintro e w4 ⟨rfl, hb4⟩
      have HB4 := Lib.hid (HB3.out.trans (hb4.mono HB3.out.size))
      have HTS := Lib.hid (text_short hinv hk)
      go_wp2_with fail
      refine (parse_any (textT T) w4 HTS.out (HWD.out.on HB4.out)).mono ?_
      rintro e w5 ⟨hor, hb5⟩
      rw [HTP.out] at hor
      obtain ⟨p5, sv4, lv4, rfl, h5⟩ : ∃ p5 sv4 lv4, e = .returned (.tuple #[.pointer (some ⟨p5, 0, none⟩), .int .i64 0]) ∧ Rep w4.heap.size p5 sv4 lv4 T w5 := by
        rcases hor with ⟨p5, sv4, lv4, T5, hT5, he, h5⟩ | ⟨hT5, _⟩
        · cases hT5
          exact ⟨p5, sv4, lv4, he, h5⟩
        · cases hT5
      clear hor
      have HB5 := Lib.hid (HB4.out.trans (hb5.mono HB4.out.size))
      have HR5 := Lib.hid h5
      have J4 := Lib.hid ((F4.out.ext hb4).ext hb5)
      have J7 := Lib.hid ((F7.out.ext hb4).ext hb5)
      have hw45 : w3.heap.size ≤ w4.heap.size := hb4.size
      have HX5 := Lib.hid (show ∀ b, E b → w5.heap[b]? = w.heap[b]? from fun b hb => ((hb5.block b (Nat.lt_of_lt_of_le (OX3.out b hb).1 hb4.size)).trans (hb4.block b (OX3.out b hb).1)).trans (HX3.out b hb))
      have OX5 := Lib.hid (show ∀ b, E b → Out p5 sv4 lv4 w5 b from fun b hb => by
        have hl := (OX3.out b hb).1
        have hl4 := hb4.size
        have hl5 := hb5.size
        exact ⟨by omega, by have := h5.ge; omega, fun e => by have := (h5.2.2.1.lt _ e).1; omega, fun e => by have := (h5.2.2.2.lt _ e).1; omega⟩)
      clear HX3 OX3
      have P5 := Lib.hid (show Out p5 sv4 lv4 w5 (G0 + 1 + 1) from ⟨J7.out.lt, by have := h5.ge; have := F7.out.lt; omega, fun e => by have := (h5.2.2.1.lt _ e).1; have := F7.out.lt; omega, fun e => by have := (h5.2.2.2.lt _ e).1; have := F7.out.lt; omega⟩)
      have HN5 := Lib.hid (show RefN (PG E p5 sv4 lv4 (G0 + 1 + 1)) T (.slice SA T.ses.length sc) (.slice A T.lea.length c) w5 from (HREF.out.mono (N' := PG E p5 sv4 lv4 (G0 + 1 + 1)) (fun b hb hn => by
        have hz := HB4.out.size
        rcases hn with (hn | hn | hn) | hn | hn
        · exfalso; have := h5.ge; omega
        · exfalso; have := (h5.2.2.1.lt _ hn).1; omega
        · exfalso; have := (h5.2.2.2.lt _ hn).1; omega
        · exact .inr hn
        · exfalso; have := HG0.out; omega)).ext HB5.out)
      have BD5 := Lib.hid (show Below D w w5 from HB5.out.mono hD)
      have hD5 : D ≤ w5.heap.size := by have := HB5.out.size; omega
      have hDB4 : D ≤ w4.heap.size := by have := HB4.out.size; omega
      have HINV2 := Lib.hid (show InvP (k + 1) T from hinv.mono)
      clear h5 hb4 hb5
      have q4 := J4.out.cell
      have l4 := J4.out.lt
      have q7 := J7.out.cell
      have y7 := J7.out.free
      have l7 := J7.out.lt
      go_wp2_with fail
      go_region
      simp only [Exit.inBlock, Exit.then]
      go_step
      go_wp2_with (with_reducible refine stop_at ?_)
      unfold StopAt
      clear q7 y7 l7 q4 l4
      generalize hw9 : World.drew _ = w9
      have R9 := Lib.hid (show Rep w4.heap.size p5 sv4 lv4 T w9 by
        rw [← hw9]
        refine Rep.ext ?_ (Below.refl _ _).drew
        exact (((((HR5.out.off P5.out 0 _).off (P5.out.off _ 0 _) 1 _).off ((P5.out.off _ 0 _).off _ 1 _) 2 _).off (((P5.out.off _ 0 _).off _ 1 _).off _ 2 _) 3 _).off ((((P5.out.off _ 0 _).off _ 1 _).off _ 2 _).off _ 3 _) 4 _))
      have X9 := Lib.hid (show Held w9 (G0 + 1 + 1) [.int .i64 T.now, .int .i64 T.ls, .int .i64 T.lf, .slice SA T.ses.length sc, .slice A T.lea.length c] by
        rw [← hw9]
        exact ((((((J7.out.set 0 _).set 1 _).set 2 _).set 3 _).set 4 _)).ext (Below.refl _ _).drew)
      have N9 := Lib.hid (show RefN (PG E p5 sv4 lv4 (G0 + 1 + 1)) T (.slice SA T.ses.length sc) (.slice A T.lea.length c) w9 by
        rw [← hw9]
        exact ((((((HN5.out.put (.inr (.inr rfl)) 0 _).put (.inr (.inr rfl)) 1 _).put (.inr (.inr rfl)) 2 _).put (.inr (.inr rfl)) 3 _).put (.inr (.inr rfl)) 4 _)).ext (Below.refl _ _).drew)
      have HX9 := Lib.hid (show ∀ b, E b → w9.heap[b]? = w.heap[b]? from fun b hb => by
        rw [← hw9]
        exact (five_kept (HXG.out b hb) _ _ _ _ _).trans (HX5.out b hb))
      have OX9 := Lib.hid (show ∀ b, E b → Out p5 sv4 lv4 w9 b from fun b hb => by
        rw [← hw9]
        exact Out.ext (((((((OX5.out b hb).off _ 0 _).off _ 1 _).off _ 2 _).off _ 3 _).off _ 4 _)) (Below.refl _ _).drew)
      have BD9 := Lib.hid (show Below D w w9 by
        rw [← hw9]
        exact ((((((BD5.out.setCell (p := ⟨G0 + 1 + 1, 0, none⟩) HDG.out _).setCell (p := ⟨G0 + 1 + 1, 1, none⟩) HDG.out _).setCell (p := ⟨G0 + 1 + 1, 2, none⟩) HDG.out _).setCell (p := ⟨G0 + 1 + 1, 3, none⟩) HDG.out _).setCell (p := ⟨G0 + 1 + 1, 4, none⟩) HDG.out _)).drew)
      have r0 : w9.cell? ⟨G0 + 1 + 1, 0, none⟩ = some (.int .i64 T.now) := X9.out.cell 0
      have r1 : w9.cell? ⟨G0 + 1 + 1, 1, none⟩ = some (.int .i64 T.ls) := X9.out.cell 1
      have r2 : w9.cell? ⟨G0 + 1 + 1, 2, none⟩ = some (.int .i64 T.lf) := X9.out.cell 2
      have r3 : w9.cell? ⟨G0 + 1 + 1, 3, none⟩ = some (.slice SA T.ses.length sc) := X9.out.cell 3
      have r4 : w9.cell? ⟨G0 + 1 + 1, 4, none⟩ = some (.slice A T.lea.length c) := X9.out.cell 4
      refine bodyPost_ret (by simp [results, Tryz.results11, r0, r1, r2, r3, r4, go_sem]; try rfl) rfl ?_
      exact ⟨p5, T, _, _, rfl, ⟨⟨w4.heap.size, sv4, lv4, hDB4, R9.out, N9.out.mono (fun b _ h => h.elim .inl (fun e => .inr (.inl e))), OX9.out⟩, HINV2.out⟩, BD9.out, HX9.out⟩
end Go.Proofs.YtneiljaknmeagaaGreatDoor
