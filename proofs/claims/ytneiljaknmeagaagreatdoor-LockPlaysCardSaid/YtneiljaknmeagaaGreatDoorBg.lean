/-
  Numbers, ParseInt and Split. The conditions of the contracts are their hypotheses.
-/
import Derived.Test.YtneiljaknmeagaaGreatDoorPa
import Derived.Lib.SplitLaws
namespace Go.Proofs.YtneiljaknmeagaaGreatDoor
set_option linter.unusedVariables false
set_option linter.unusedSimpArgs false
theorem uintM_digs : ∀ (l : List UInt8) (M acc u : Nat), Lib.parseUintM M acc l = .ok u → digs (acc : Int) l = some (u : Int)
  | [], M, acc, u, h => by
    have e : acc = u := by injection h
    rw [e]
    rfl
  | c :: r, M, acc, u, h => by
    unfold Lib.parseUintM at h
    split at h
    · rename_i hc
      split at h
      · cases h
      · split at h
        · cases h
        · have := uintM_digs r M _ u h
          rw [digs_ok hc.1 hc.2, ← this]
          congr 1
          omega
    · cases h
theorem uintB_digs {l : List UInt8} {u : Nat} (h : Lib.parseUintB 64 l = .ok u) : digs 0 l = some (u : Int) := by
  unfold Lib.parseUintB at h
  split at h
  · cases h
  · exact uintM_digs l _ 0 u h
theorem int_digs {l : List UInt8} {v : Int} (h : Lib.parseIntB 64 l = .ok v) (h1 : l.head? ≠ some 45) (h2 : l.head? ≠ some 43) : digs 0 l = some v := by
  cases l with
  | nil => cases h
  | cons c r =>
    have c1 : c.toNat ≠ 45 := fun e => h1 (by rw [List.head?_cons, show c = 45 from UInt8.toNat_inj.1 e])
    have c2 : c.toNat ≠ 43 := fun e => h2 (by rw [List.head?_cons, show c = 43 from UInt8.toNat_inj.1 e])
    unfold Lib.parseIntB at h
    simp only [c1, c2, or_self, if_false, not_false_eq_true, true_and, false_and] at h
    split at h
    · cases h
    · cases h
    · rename_i u hu
      split at h
      · cases h
      · have e : (u : Int) = v := by injection h
        rw [← e]
        exact uintB_digs hu
theorem int_neg {r : List UInt8} {v : Int} (h : Lib.parseIntB 64 (45 :: r) = .ok v) : ∃ u : Nat, digs 0 r = some (u : Int) ∧ v = -(u : Int) := by
  unfold Lib.parseIntB at h
  simp only [show (45 : UInt8).toNat = 45 from rfl, or_true, if_true, not_true_eq_false, false_and, if_false, true_and] at h
  split at h
  · cases h
  · cases h
  · rename_i u hu
    split at h
    · cases h
    · have e : -(u : Int) = v := by injection h
      exact ⟨u, uintB_digs hu, e.symm⟩
theorem canon_itoa {l : List UInt8} {n : Int} (hd : digs 0 l = some n) (hne : l ≠ []) (h48 : l.head? ≠ some 48 ∨ l = [48]) : 0 ≤ n ∧ l = Lib.itoa n := by
  by_cases hz : l = [48]
  · rw [hz] at hd
    have e0 : n = 0 := by
      have e : digs 0 [48] = some 0 := by decide
      rw [e] at hd
      exact (Option.some.inj hd).symm
    rw [hz, e0]
    exact ⟨Int.le_refl _, itoa_zero.symm⟩
  · obtain ⟨k1, k2⟩ := digs_back l n hd hne (h48.resolve_right hz)
    exact ⟨by omega, by rw [itoa_dec (by omega), k2]⟩
theorem canon_ok {l : List UInt8} {n : Int} (hd : digs 0 l = some n) (hne : l ≠ []) (h48 : l.head? ≠ some 48 ∨ l = [48]) (hn : n ≤ 9223372036854775807) : Lib.parseIntB 64 l = .ok n := by
  obtain ⟨h0, e⟩ := canon_itoa hd hne h48
  rw [e]
  exact parseInt_itoa (by omega) hn
theorem digs_all : ∀ (l : List UInt8) (n : Int), (∀ b ∈ l, isD b = true) → ∃ m, digs n l = some m
  | [], n, _ => ⟨n, rfl⟩
  | b :: r, n, h => by
    have hb := h b (List.mem_cons_self ..)
    simp only [isD, Bool.and_eq_true, decide_eq_true_eq] at hb
    obtain ⟨m, hm⟩ := digs_all r (10 * n + ((b.toNat : Int) - 48)) (fun x hx => h x (List.mem_cons_of_mem _ hx))
    exact ⟨m, by rw [digs_ok hb.1 hb.2, hm]⟩
theorem digs_isD : ∀ (l : List UInt8) (n m : Int), digs n l = some m → ∀ b ∈ l, isD b = true
  | [], _, _, _, b, hb => by cases hb
  | c :: r, n, m, h, b, hb => by
    rw [digs] at h
    split at h
    · rename_i hc
      rcases List.mem_cons.1 hb with rfl | hb
      · exact hc
      · exact digs_isD r _ m h b hb
    · cases h
/-! why a text is no number -/
theorem numP_nil {m : Int} : numP m [] = none := by
  unfold numP
  split
  · rw [if_neg (fun h => h.1 rfl)]
  · rfl
theorem numP_zeros {m : Int} {l : List UInt8} (h : l.head? = some 48) (hl : 1 < l.length) : numP m l = none := by
  unfold numP
  split
  · rw [if_neg]
    rintro ⟨_, h2, _⟩
    rcases h2 with h2 | h2
    · exact h2 h
    · rw [h2] at hl; simp at hl
  · rfl
theorem numP_bad {m : Int} {l : List UInt8} {b : UInt8} (hb : b ∈ l) (h : isD b = false) : numP m l = none := by
  unfold numP
  split
  · rename_i n hn
    have := digs_isD l 0 n hn b hb
    rw [h] at this
    cases this
  · rfl
theorem numP_big {m n : Int} {l : List UInt8} (hd : digs 0 l = some n) (hn : m < n) : numP m l = none := by
  unfold numP
  rw [hd]
  simp only []
  rw [if_neg]
  rintro ⟨_, _, h3⟩
  omega
theorem numP_ok {m n : Int} {l : List UInt8} (hd : digs 0 l = some n) (hne : l ≠ []) (h48 : l.head? ≠ some 48 ∨ l = [48]) (hn : n ≤ m) : numP m l = some n := by
  unfold numP
  rw [hd]
  simp only []
  rw [if_pos ⟨hne, h48, hn⟩]
end Go.Proofs.YtneiljaknmeagaaGreatDoor
namespace Go.Proofs.YtneiljaknmeagaaGreatDoor
open Go.RowKit Go.Joins
set_option linter.unusedVariables false
set_option linter.unusedSimpArgs false
def okI : Lib.NumEnd Int → Option Int := fun r => match r with | .ok v => some v | _ => none
abbrev Ev (g : Nat) (w : World) : Prop := ∃ ev, w.cell? ⟨g, 0, none⟩ = some ev ∧ (ev = .nilIface ∨ ∃ te pe, ev = .iface te pe)
structure Wd (w : World) : Prop where
  tab : Tab w
  mx : ∃ m, w.cell? ⟨0, 0, none⟩ = some (.int .i64 m)
  es : Ev 4 w
  er : Ev 5 w
theorem Wd.on {w w' : World} (h : Wd w) (hb : Below w.heap.size w w') : Wd w' := by
  obtain ⟨h1, ⟨m, h2⟩, ⟨e1, h3, h3'⟩, ⟨e2, h4, h4'⟩⟩ := h
  exact ⟨h1.on hb, ⟨m, (hb.cell (World.block_lt_of_cell? w _ h2)).trans h2⟩, ⟨e1, (hb.cell (World.block_lt_of_cell? w _ h3)).trans h3, h3'⟩, ⟨e2, (hb.cell (World.block_lt_of_cell? w _ h4)).trans h4, h4'⟩⟩
/-- What ParseInt finds. -/
def PintP (l : List UInt8) (B : Nat) (W : World) (e : Ending) (w' : World) : Prop := (∃ v ev, e = .returned (.tuple #[.int .i64 v, ev]) ∧ ((okI (Lib.parseIntB 64 l) = some v ∧ ev = .nilIface) ∨ (okI (Lib.parseIntB 64 l) = none ∧ ∃ tp p, ev = .iface tp p))) ∧ Below B W w'
theorem pint_any (s : List UInt8) (w : World) (hs : s.length ≤ 100000) (hw : Wd w) :
    Calls Tryz.prog 91 #[.string (sB s), .int .i64 10, .int .i64 64] w (PintP s w.heap.size w) := by
  have hsz : (sB s).size ≤ 100000 := by rw [sB_size]; exact hs
  rcases hp : Lib.parseIntB 64 (sB s).data.toList with v | _ | _
  · refine (Tryz.strconv_ParseInt_10_at64_ok (sB s) (by omega) v hp w).mono ?_
    rintro e w' ⟨rfl, hw'⟩
    refine ⟨⟨v, .nilIface, rfl, .inl ⟨?_, rfl⟩⟩, ?_⟩
    · rw [sB_list] at hp
      rw [hp]
      rfl
    · rcases hw' with rfl | ⟨t, rfl⟩
      · exact Below.refl _ _
      · exact Go.Joins.below_bytesWorld _ w _ t (Nat.le_refl _)
  · obtain ⟨ev, h1, h2⟩ := hw.es
    refine (Tryz.strconv_ParseInt_10_at64_syntax (sB s) (by omega) hp ev w h1 h2).mono ?_
    rintro e w' ⟨N, rfl, _, _, hb⟩
    refine ⟨⟨0, _, rfl, .inr ⟨?_, _, _, rfl⟩⟩, hb⟩
    rw [sB_list] at hp
    rw [hp]
    rfl
  · obtain ⟨ev, h1, h2⟩ := hw.er
    refine (Tryz.strconv_ParseInt_10_at64_range (sB s) (by omega) hp ev w h1 h2).mono ?_
    rintro e w' ⟨N, rfl, _, _, hb⟩
    refine ⟨⟨_, _, rfl, .inr ⟨?_, _, _, rfl⟩⟩, hb⟩
    rw [sB_list] at hp
    rw [hp]
    rfl
def linesG (c : UInt8) (s : ByteArray) : List ByteArray := Lib.splitB ⟨#[c]⟩ 0 (Lib.countB s ⟨#[c]⟩) s
theorem linesG_len (c : UInt8) (s : ByteArray) : (linesG c s).length = Lib.countB s ⟨#[c]⟩ + 1 := Lib.splitB_all ⟨#[c]⟩ (Nat.one_pos) 0 _ s rfl
theorem linesG_le (c : UInt8) (s : ByteArray) : (linesG c s).length ≤ s.size + 1 := by
  rw [linesG_len]
  have := Lib.countB_le ⟨#[c]⟩ (Nat.one_pos) s.size s (Nat.le_refl _)
  omega
theorem wordsG_le (c : UInt8) (s : List UInt8) : (wordsC c s).length ≤ s.length + 1 := by
  have h1 := linesG_le c (sB s)
  have h2 := split_wordsC c (sB s)
  rw [sB_list] at h2
  have h3 := congrArg List.length h2
  rw [List.length_map] at h3
  rw [← h3]
  rw [sB_size] at h1
  exact h1
theorem splitg_any (c : UInt8) (s : List UInt8) (w : World) (hs : s.length ≤ 100000) (hw : Wd w) :
    Calls Tryz.prog 24 #[.string (sB s), .string ⟨#[c]⟩] w fun e w' => e = .returned (.slice (some ⟨w.heap.size, 0, none⟩) (wordsC c s).length (wordsC c s).length) ∧ w' = w.alloc (.cells ((wordsC c s).map fun x => Value.string (sB x)).toArray 9) := by
  obtain ⟨m, hm⟩ := hw.mx
  have h1 := Any.strings_Split { Tryz.laysM146 with } Tryz.laysM146.i9 (sB s) ⟨#[c]⟩ m w (by rw [sB_size]; omega) hm (Nat.one_pos)
  have e1 : (linesG c (sB s)).map (·.data.toList) = wordsC c s := by
    have := split_wordsC c (sB s)
    rw [sB_list] at this
    exact this
  have e2 : (wordsC c s).length = (linesG c (sB s)).length := by rw [← e1, List.length_map]
  have e3 : ((wordsC c s).map fun x => Value.string (sB x)) = (linesG c (sB s)).map Value.string := by
    rw [← e1, List.map_map]
    apply List.map_congr_left
    intro x hx
    show Value.string (sB x.data.toList) = _
    rw [sB_of]
  rw [e2, e3, linesG_len]
  exact h1
end Go.Proofs.YtneiljaknmeagaaGreatDoor
