/-
  The contracts of ParseInt and Split. Their conditions are their hypotheses.
-/
import Derived.Test.YtneiljaknmeagaaGreatDoorPb
import Derived.Lib.SplitLaws
namespace Go.Proofs.YtneiljaknmeagaaGreatDoor
open Go.RowKit Go.Joins
set_option linter.unusedVariables false
set_option linter.unusedSimpArgs false
def okI : Lib.NumEnd Int → Option Int := fun r => match r with | .ok v => some v | _ => none
abbrev Ev (g : Nat) (w : World) : Prop := ∃ ev, w.cell? ⟨g, 0, none⟩ = some ev ∧ (ev = .nilIface ∨ ∃ te pe, ev = .iface te pe)
structure Wd (w : World) : Prop where
  tab : Tab w
  mx : ∃ m, w.cell? ⟨0, 0, none⟩ = some (.int .i64 m)
  es : Ev 4 w
  er : Ev 5 w
theorem Wd.on {w w' : World} (h : Wd w) (hb : Below w.heap.size w w') : Wd w' := by
  obtain ⟨h1, ⟨m, h2⟩, ⟨e1, h3, h3'⟩, ⟨e2, h4, h4'⟩⟩ := h
  exact ⟨h1.on hb, ⟨m, (hb.cell (World.block_lt_of_cell? w _ h2)).trans h2⟩, ⟨e1, (hb.cell (World.block_lt_of_cell? w _ h3)).trans h3, h3'⟩, ⟨e2, (hb.cell (World.block_lt_of_cell? w _ h4)).trans h4, h4'⟩⟩
/-- What ParseInt finds. -/
def PintP (l : List UInt8) (B : Nat) (W : World) (e : Ending) (w' : World) : Prop := (∃ v ev, e = .returned (.tuple #[.int .i64 v, ev]) ∧ ((okI (Lib.parseIntB 64 l) = some v ∧ ev = .nilIface) ∨ (okI (Lib.parseIntB 64 l) = none ∧ ∃ tp p, ev = .iface tp p))) ∧ Below B W w'
theorem pint_any (s : List UInt8) (w : World) (hs : s.length ≤ 100000) (hw : Wd w) :
    Calls Tryz.prog 91 #[.string (sB s), .int .i64 10, .int .i64 64] w (PintP s w.heap.size w) := by
  have hsz : (sB s).size ≤ 100000 := by rw [sB_size]; exact hs
  rcases hp : Lib.parseIntB 64 (sB s).data.toList with v | _ | _
  · refine (Tryz.strconv_ParseInt_10_at64_ok (sB s) (by omega) v hp w).mono ?_
    rintro e w' ⟨rfl, hw'⟩
    refine ⟨⟨v, .nilIface, rfl, .inl ⟨?_, rfl⟩⟩, ?_⟩
    · rw [sB_list] at hp
      rw [hp]
      rfl
    · rcases hw' with rfl | ⟨t, rfl⟩
      · exact Below.refl _ _
      · exact Go.Joins.below_bytesWorld _ w _ t (Nat.le_refl _)
  · obtain ⟨ev, h1, h2⟩ := hw.es
    refine (Tryz.strconv_ParseInt_10_at64_syntax (sB s) (by omega) hp ev w h1 h2).mono ?_
    rintro e w' ⟨N, rfl, _, _, hb⟩
    refine ⟨⟨0, _, rfl, .inr ⟨?_, _, _, rfl⟩⟩, hb⟩
    rw [sB_list] at hp
    rw [hp]
    rfl
  · obtain ⟨ev, h1, h2⟩ := hw.er
    refine (Tryz.strconv_ParseInt_10_at64_range (sB s) (by omega) hp ev w h1 h2).mono ?_
    rintro e w' ⟨N, rfl, _, _, hb⟩
    refine ⟨⟨_, _, rfl, .inr ⟨?_, _, _, rfl⟩⟩, hb⟩
    rw [sB_list] at hp
    rw [hp]
    rfl
def linesG (c : UInt8) (s : ByteArray) : List ByteArray := Lib.splitB ⟨#[c]⟩ 0 (Lib.countB s ⟨#[c]⟩) s
theorem linesG_len (c : UInt8) (s : ByteArray) : (linesG c s).length = Lib.countB s ⟨#[c]⟩ + 1 := Lib.splitB_all ⟨#[c]⟩ (Nat.one_pos) 0 _ s rfl
theorem linesG_le (c : UInt8) (s : ByteArray) : (linesG c s).length ≤ s.size + 1 := by
  rw [linesG_len]
  have := Lib.countB_le ⟨#[c]⟩ (Nat.one_pos) s.size s (Nat.le_refl _)
  omega
theorem wordsG_le (c : UInt8) (s : List UInt8) : (wordsC c s).length ≤ s.length + 1 := by
  have h1 := linesG_le c (sB s)
  have h2 := split_wordsC c (sB s)
  rw [sB_list] at h2
  have h3 := congrArg List.length h2
  rw [List.length_map] at h3
  rw [← h3]
  rw [sB_size] at h1
  exact h1
theorem splitg_any (c : UInt8) (s : List UInt8) (w : World) (hs : s.length ≤ 100000) (hw : Wd w) :
    Calls Tryz.prog 24 #[.string (sB s), .string ⟨#[c]⟩] w fun e w' => e = .returned (.slice (some ⟨w.heap.size, 0, none⟩) (wordsC c s).length (wordsC c s).length) ∧ w' = w.alloc (.cells ((wordsC c s).map fun x => Value.string (sB x)).toArray 9) := by
  obtain ⟨m, hm⟩ := hw.mx
  have h1 := Any.strings_Split { Tryz.laysM146 with } Tryz.laysM146.i9 (sB s) ⟨#[c]⟩ m w (by rw [sB_size]; omega) hm (Nat.one_pos)
  have e1 : (linesG c (sB s)).map (·.data.toList) = wordsC c s := by
    have := split_wordsC c (sB s)
    rw [sB_list] at this
    exact this
  have e2 : (wordsC c s).length = (linesG c (sB s)).length := by rw [← e1, List.length_map]
  have e3 : ((wordsC c s).map fun x => Value.string (sB x)) = (linesG c (sB s)).map Value.string := by
    rw [← e1, List.map_map]
    apply List.map_congr_left
    intro x hx
    show Value.string (sB x.data.toList) = _
    rw [sB_of]
  rw [e2, e3, linesG_len]
  exact h1
end Go.Proofs.YtneiljaknmeagaaGreatDoor
