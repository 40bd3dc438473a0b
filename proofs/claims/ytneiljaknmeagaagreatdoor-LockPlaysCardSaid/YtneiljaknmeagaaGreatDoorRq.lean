/-
  The contract of the law LockPlays. Its conditions are its hypotheses.
-/
import Derived.Test.YtneiljaknmeagaaGreatDoorRo
import Derived.Test.YtneiljaknmeagaaGreatDoorBa
import Derived.Test.YtneiljaknmeagaaGreatDoorBl
import Derived.Test.YtneiljaknmeagaaGreatDoorBi
import Derived.Test.YtneiljaknmeagaaGreatDoorQh
import Derived.Test.YtneiljaknmeagaaGreatDoorM9
namespace Go.Proofs.YtneiljaknmeagaaGreatDoor
open Go.RowKit Go.Joins
set_option linter.unusedVariables false
set_option linter.unusedSimpArgs false
def boxV (T : Tb) (sr lr : Value) : List Value := [.int .i64 T.now, .int .i64 T.ls, .int .i64 T.lf, sr, lr]
def nilV : List Value := [.int .i64 0, .int .i64 0, .int .i64 0, .slice none 0 0, .slice none 0 0]
theorem Play.grow {D k : Nat} {T : Tb} {p : Nat} {sr lr : Value} {E E' : Nat → Prop} {w w' : World} (h : Play D k T p sr lr E w) (hb : Below w.heap.size w w') (he : ∀ b, E' b → E b ∨ (w.heap.size ≤ b ∧ b < w'.heap.size)) : Play D k T p sr lr E' w' := by
  obtain ⟨⟨B, sv, lv, hDB, hrep, href, hout⟩, hinv⟩ := h
  refine ⟨⟨B, sv, lv, hDB, hrep.ext hb, (href.mono (N' := PX E' p sv lv) (fun b hbs hn => ?_)).ext hb, fun b hE => ?_⟩, hinv⟩
  · rcases hn with hn | hn
    · exact .inl hn
    · rcases he b hn with h | h
      · exact .inr h
      · omega
  · rcases he b hE with h | h
    · exact (hout b h).ext hb
    · exact hrep.out_new h.1 h.2
theorem Play.less {D k : Nat} {T : Tb} {p : Nat} {sr lr : Value} {E E' : Nat → Prop} {w : World} (h : Play D k T p sr lr E w) (he : ∀ b, E' b → E b) : Play D k T p sr lr E' w :=
  h.grow (Below.refl _ _) (fun b hb => .inl (he b hb))
theorem Play.out {D k : Nat} {T : Tb} {p : Nat} {sr lr : Value} {E : Nat → Prop} {w : World} (h : Play D k T p sr lr E w) {b : Nat} (hb : E b) : b < w.heap.size := by
  obtain ⟨⟨B, sv, lv, hDB, hrep, href, hout⟩, hinv⟩ := h
  exact (hout b hb).1
theorem Play.put {D k : Nat} {T : Tb} {p : Nat} {sr lr : Value} {E : Nat → Prop} {w : World} (h : Play D k T p sr lr E w) {b : Nat} (hb : E b) (i : Nat) (v : Value) : Play D k T p sr lr E (w.setCell ⟨b, i, none⟩ v) := by
  obtain ⟨⟨B, sv, lv, hDB, hrep, href, hout⟩, hinv⟩ := h
  exact ⟨⟨B, sv, lv, hDB, hrep.off (hout b hb) i v, href.put (.inr hb) i v, fun c hc => (hout c hc).off b i v⟩, hinv⟩
/-- What a round begins with. -/
structure RndP (D k : Nat) (T : Tb) (p : Nat) (sr lr : Value) (X : Nat) (w wr : World) : Prop where
  play : Play D k T p sr lr (fun b => b = X) wr
  box : Held wr X (boxV T sr lr)
  bel : Below D w wr
theorem RndP.start {D : Nat} {w w1 w2 w3 : World} (hD : D ≤ w1.heap.size) (h1 : Below D w w1) (h2 : Rep w1.heap.size w1.heap.size (.slice none 0 0) (.slice none 0 0) tb0 w2) (hb2 : Below w1.heap.size w1 w2) {t : TypeId} (h3 : w3 = w2.alloc (.cells nilV.toArray t (0, 0))) :
    RndP D 0 tb0 w1.heap.size (.slice none 0 0) (.slice none 0 0) w2.heap.size w w3 := by
  have hb3 : Below w2.heap.size w2 w3 := by rw [h3]; exact below_one _ _
  have hD2 : D ≤ w2.heap.size := by have := h2.lt; omega
  refine ⟨⟨⟨w1.heap.size, _, _, hD, h2.ext hb3, ⟨⟨none, 0, rfl, (fun k u hk => by simp [tb0] at hk), Nat.le_refl _, Nat.zero_le _, fun _ => rfl⟩, none, 0, rfl, (fun k u hk => by simp [tb0] at hk), Nat.le_refl _, Nat.zero_le _, fun _ => rfl⟩, fun b hb => ?_⟩, InvP.zero⟩, ?_, (h1.trans (hb2.mono hD)).trans (hb3.mono hD2)⟩
  · rw [hb]
    exact h2.out_new (Nat.le_refl _) (by rw [h3]; simp)
  · rw [h3]
    exact Held.new rfl
/-- The blocks that are not the table's: the box, and the one of slot 9 if it has come up. -/
def EQ (X : Nat) (b11 : Bool) (v9 : Value) : Nat → Prop := fun b => b = X ∨ (b11 = true ∧ v9 = .pointer (some ⟨b, 0, none⟩))
def tupV (p : Nat) (T : Tb) (sr lr : Value) : Value := .tuple #[.pointer (some ⟨p, 0, none⟩), refV T sr lr, .bool true]
/-- On the way through the region of do. -/
structure JQ (D k : Nat) (T : Tb) (p : Nat) (sr lr : Value) (X : Nat) (w0 : World) (b6 b7 b8 b9 b10 b11 b12 b13 : Bool) (v36 v29 v37 v38 v39 v9 v8 : Value) (w : World) : Prop where
  a9 : b11 = true → ∃ Y, v9 = .pointer (some ⟨Y, 0, none⟩) ∧ D ≤ Y ∧ Y ≠ X ∧ (b13 = false → Held w Y nilV)
  bel : Below D w0 w
  box : Held w X (boxV T sr lr)
  pre : b6 = false → Play D k T p sr lr (EQ X b11 v9) w
  post : b6 = true → ∃ p' T' sr' lr', v36 = tupV p' T' sr' lr' ∧ (b7 = true → v29 = tupV p' T' sr' lr') ∧ (b8 = true → v37 = .pointer (some ⟨p', 0, none⟩)) ∧ (b9 = true → v38 = refV T' sr' lr') ∧ (b10 = true → v39 = .bool true) ∧ (b12 = true → v8 = .pointer (some ⟨p', 0, none⟩)) ∧
    (b13 = true → ∃ Y, v9 = .pointer (some ⟨Y, 0, none⟩) ∧ Held w Y (boxV T' sr' lr')) ∧ Play D (k + 1) T' p' sr' lr' (EQ X b11 v9) w
def JP (D k : Nat) (T : Tb) (p : Nat) (sr lr : Value) (X : Nat) (w0 : World) (li : Array Bool) (ev : Nat → Value) (w : World) : Prop :=
  JQ D k T p sr lr X w0 (li.getD 6 false) (li.getD 7 false) (li.getD 8 false) (li.getD 9 false) (li.getD 10 false) (li.getD 11 false) (li.getD 12 false) (li.getD 13 false) (ev 36) (ev 29) (ev 37) (ev 38) (ev 39) (ev 9) (ev 8) w
section
variable {D k : Nat} {T : Tb} {p : Nat} {sr lr : Value} {X : Nat} {w0 : World} {li : Array Bool} {ev : Nat → Value} {w w' : World}
theorem JP.pure (h : JP D k T p sr lr X w0 li ev w) {i d : Nat} {v : Value} (hi : i < 6) (hd : d < 8 ∨ 29 < d ∧ d < 36) : JP D k T p sr lr X w0 (li.setIfInBounds i true) (putEv ev (some d) v) w := by
  unfold JP at h ⊢
  rw [getD_set_ne false (show i ≠ 6 by omega), getD_set_ne false (show i ≠ 7 by omega), getD_set_ne false (show i ≠ 8 by omega), getD_set_ne false (show i ≠ 9 by omega), getD_set_ne false (show i ≠ 10 by omega), getD_set_ne false (show i ≠ 11 by omega), getD_set_ne false (show i ≠ 12 by omega), getD_set_ne false (show i ≠ 13 by omega),
    putEv_ne (s := 36) (fun e => by cases e; omega), putEv_ne (s := 29) (fun e => by cases e; omega), putEv_ne (s := 37) (fun e => by cases e; omega), putEv_ne (s := 38) (fun e => by cases e; omega), putEv_ne (s := 39) (fun e => by cases e; omega), putEv_ne (s := 9) (fun e => by cases e; omega), putEv_ne (s := 8) (fun e => by cases e; omega)]
  exact h
theorem JP.start {n : Nat} (h : RndP D k T p sr lr X w w') : JP D k T p sr lr X w' (Array.replicate n false) ev { w' with drawn := w'.drawn + 1 } := by
  have e : ∀ i, (Array.replicate n false).getD i false = false := fun i => getD_replicate_false _ _
  have hb : Below w'.heap.size w' { w' with drawn := w'.drawn + 1 } := (Below.refl _ _).drew
  unfold JP
  simp only [e]
  exact ⟨(fun h => by cases h), (Below.refl _ _).drew, h.box.ext hb, fun _ => h.play.grow hb (fun b hb => .inl (hb.elim id (fun e => by cases e.1))), (fun h => by cases h)⟩
theorem set_get {li : Array Bool} {i : Nat} (h : i < li.size) : (li.setIfInBounds i true).getD i false = true := by simp [h]
theorem JP.call (h : JP D k T p sr lr X w0 li ev w) (hs : 6 < li.size) (h6 : li.getD 6 false = false) (h7 : li.getD 7 false = false) (h8 : li.getD 8 false = false) (h9 : li.getD 9 false = false) (h10 : li.getD 10 false = false) (h12 : li.getD 12 false = false) (h13 : li.getD 13 false = false)
    {p' : Nat} {T' : Tb} {sr' lr' : Value} (hp : Play D (k + 1) T' p' sr' lr' (EQ X (li.getD 11 false) (ev 9)) w') (hb : Below D w w') (hE : ∀ b, EQ X (li.getD 11 false) (ev 9) b → w'.heap[b]? = w.heap[b]?) : JP D k T p sr lr X w0 (li.setIfInBounds 6 true) (putEv ev (some 36) (tupV p' T' sr' lr')) w' := by
  unfold JP at h ⊢
  rw [set_get hs, getD_set_ne false (show 6 ≠ 7 by omega), getD_set_ne false (show 6 ≠ 8 by omega), getD_set_ne false (show 6 ≠ 9 by omega), getD_set_ne false (show 6 ≠ 10 by omega), getD_set_ne false (show 6 ≠ 11 by omega), getD_set_ne false (show 6 ≠ 12 by omega), getD_set_ne false (show 6 ≠ 13 by omega),
    putEv_eq, putEv_ne (s := 29) (by decide), putEv_ne (s := 37) (by decide), putEv_ne (s := 38) (by decide), putEv_ne (s := 39) (by decide), putEv_ne (s := 9) (by decide), putEv_ne (s := 8) (by decide), h7, h8, h9, h10, h12, h13]
  rw [h13] at h
  refine ⟨fun e => ?_, h.bel.trans hb, ?_, (fun e => by cases e), fun _ => ⟨p', T', sr', lr', rfl, (fun e => by cases e), (fun e => by cases e), (fun e => by cases e), (fun e => by cases e), (fun e => by cases e), (fun e => by cases e), hp⟩⟩
  · obtain ⟨Y, e9, h1, h2, hh⟩ := h.a9 e
    obtain ⟨t, ht⟩ := hh rfl
    exact ⟨Y, e9, h1, h2, fun _ => ⟨t, (hE Y (.inr ⟨e, e9⟩)).trans ht⟩⟩
  · obtain ⟨t, ht⟩ := h.box
    exact ⟨t, (hE X (.inl rfl)).trans ht⟩
theorem JP.al {t : TypeId} (h : JP D k T p sr lr X w0 li ev w) (hs : 11 < li.size) (h11 : li.getD 11 false = false) (h13 : li.getD 13 false = false) (hD : D ≤ w.heap.size) :
    JP D k T p sr lr X w0 (li.setIfInBounds 11 true) (putEv ev (some 9) (.pointer (some ⟨w.heap.size, 0, none⟩))) (w.alloc (.cells nilV.toArray t (0, 0))) := by
  unfold JP at h ⊢
  rw [set_get hs, getD_set_ne false (show 11 ≠ 6 by omega), getD_set_ne false (show 11 ≠ 7 by omega), getD_set_ne false (show 11 ≠ 8 by omega), getD_set_ne false (show 11 ≠ 9 by omega), getD_set_ne false (show 11 ≠ 10 by omega), getD_set_ne false (show 11 ≠ 12 by omega), getD_set_ne false (show 11 ≠ 13 by omega),
    putEv_eq, putEv_ne (s := 36) (by decide), putEv_ne (s := 29) (by decide), putEv_ne (s := 37) (by decide), putEv_ne (s := 38) (by decide), putEv_ne (s := 39) (by decide), putEv_ne (s := 8) (by decide)]
  rw [h11, h13] at h
  rw [h13]
  have hE : ∀ b, EQ X true (.pointer (some ⟨w.heap.size, 0, none⟩)) b → EQ X false (ev 9) b ∨ (w.heap.size ≤ b ∧ b < (w.alloc (.cells nilV.toArray t (0, 0))).heap.size) := fun b hb => by
    rcases hb with hb | ⟨_, hb⟩
    · exact .inl (.inl hb)
    · injection hb with e
      injection e with e
      injection e with e
      refine .inr ⟨by omega, by rw [← e]; simp⟩
  refine ⟨fun _ => ⟨_, rfl, hD, (fun e => by have := h.box.lt; omega), fun _ => Held.new rfl⟩, h.bel.alloc hD _, h.box.alloc _, fun e => (h.pre e).grow (below_one _ _) hE, fun e => ?_⟩
  obtain ⟨p', T', sr', lr', e1, e2, e3, e4, e5, e6, e7, hp⟩ := h.post e
  exact ⟨p', T', sr', lr', e1, e2, e3, e4, e5, e6, (fun e => by cases e), hp.grow (below_one _ _) hE⟩
theorem JP.st (h : JP D k T p sr lr X w0 li ev w) (hs : 13 < li.size) (h6 : li.getD 6 false = true) (h9 : li.getD 9 false = true) (h11 : li.getD 11 false = true) (h13 : li.getD 13 false = false) {v : Value} :
    ∃ (T' : Tb) (A1 A2 : Option Addr) (c1 c2 : Nat) (Y : Nat), ev 9 = .pointer (some ⟨Y, 0, none⟩) ∧ ev 38 = refV T' (.slice A1 T'.ses.length c1) (.slice A2 T'.lea.length c2) ∧ Held w Y nilV ∧ ∀ w', w' = ((((w.setCell ⟨Y, 0, none⟩ (.int .i64 T'.now)).setCell ⟨Y, 1, none⟩ (.int .i64 T'.ls)).setCell ⟨Y, 2, none⟩ (.int .i64 T'.lf)).setCell ⟨Y, 3, none⟩ (.slice A1 T'.ses.length c1)).setCell ⟨Y, 4, none⟩ (.slice A2 T'.lea.length c2) → JP D k T p sr lr X w0 (li.setIfInBounds 13 true) (putEv ev none v) w' := by
  unfold JP at h ⊢
  obtain ⟨p', T', sr', lr', e1, e2, e3, e4, e5, e6, e7, hp⟩ := h.post h6
  obtain ⟨Y, e9, g1, g2, hh⟩ := h.a9 h11
  have hh := hh h13
  obtain ⟨A1, c1, A2, c2, rfl, rfl⟩ : ∃ A1 c1 A2 c2, sr' = .slice A1 T'.ses.length c1 ∧ lr' = .slice A2 T'.lea.length c2 := by
    obtain ⟨⟨B, sv, lv, _, _, ⟨⟨A1, c1, g1, _⟩, A2, c2, g2, _⟩, _⟩, _⟩ := hp
    exact ⟨A1, c1, A2, c2, g1, g2⟩
  refine ⟨T', A1, A2, c1, c2, Y, e9, e4 h9, hh, fun w' hw => ?_⟩
  rw [set_get hs, getD_set_ne false (show 13 ≠ 6 by omega), getD_set_ne false (show 13 ≠ 7 by omega), getD_set_ne false (show 13 ≠ 8 by omega), getD_set_ne false (show 13 ≠ 9 by omega), getD_set_ne false (show 13 ≠ 10 by omega), getD_set_ne false (show 13 ≠ 11 by omega), getD_set_ne false (show 13 ≠ 12 by omega), putEv_ne (s := 36) (by decide), putEv_ne (s := 29) (by decide), putEv_ne (s := 37) (by decide), putEv_ne (s := 38) (by decide), putEv_ne (s := 39) (by decide), putEv_ne (s := 9) (by decide), putEv_ne (s := 8) (by decide)]
  have hY : EQ X (li.getD 11 false) (ev 9) Y := .inr ⟨h11, e9⟩
  have hH : Held w' Y (boxV T' (.slice A1 T'.ses.length c1) (.slice A2 T'.lea.length c2)) := by rw [hw]; exact ((((hh.set 0 _).set 1 _).set 2 _).set 3 _).set 4 _
  have hX : Held w' X (boxV T sr lr) := by rw [hw]; exact ((((h.box.other (Ne.symm g2) 0 _).other (Ne.symm g2) 1 _).other (Ne.symm g2) 2 _).other (Ne.symm g2) 3 _).other (Ne.symm g2) 4 _
  refine ⟨fun _ => ⟨Y, e9, g1, g2, (fun e => by cases e)⟩, ?_, hX, (fun e => by rw [h6] at e; cases e), fun _ => ⟨p', T', _, _, e1, e2, e3, e4, e5, e6, (fun _ => ⟨Y, e9, hH⟩), ?_⟩⟩
  · rw [hw]
    exact ((((h.bel.setCell (p := ⟨Y, 0, none⟩) g1 _).setCell (p := ⟨Y, 1, none⟩) g1 _).setCell (p := ⟨Y, 2, none⟩) g1 _).setCell (p := ⟨Y, 3, none⟩) g1 _).setCell (p := ⟨Y, 4, none⟩) g1 _
  · rw [hw]
    exact ((((hp.put hY 0 _).put hY 1 _).put hY 2 _).put hY 3 _).put hY 4 _
theorem JP.fin (h : JP D k T p sr lr X w0 li ev w) (hl : ∀ i, i < 14 → li.getD i false = true) :
    ∃ (p' : Nat) (T' : Tb) (A1 A2 : Option Addr) (c1 c2 : Nat) (Y : Nat), ev 36 = tupV p' T' (.slice A1 T'.ses.length c1) (.slice A2 T'.lea.length c2) ∧ ev 29 = tupV p' T' (.slice A1 T'.ses.length c1) (.slice A2 T'.lea.length c2) ∧ ev 37 = .pointer (some ⟨p', 0, none⟩) ∧ ev 38 = refV T' (.slice A1 T'.ses.length c1) (.slice A2 T'.lea.length c2) ∧ ev 39 = .bool true ∧ ev 8 = .pointer (some ⟨p', 0, none⟩) ∧ ev 9 = .pointer (some ⟨Y, 0, none⟩) ∧
      Y ≠ X ∧ Below D w0 w ∧ Held w X (boxV T sr lr) ∧ Held w Y (boxV T' (.slice A1 T'.ses.length c1) (.slice A2 T'.lea.length c2)) ∧ Play D (k + 1) T' p' (.slice A1 T'.ses.length c1) (.slice A2 T'.lea.length c2) (fun b => b = X) w := by
  unfold JP at h
  simp only [hl 6 (by omega), hl 7 (by omega), hl 8 (by omega), hl 9 (by omega), hl 10 (by omega), hl 11 (by omega), hl 12 (by omega), hl 13 (by omega)] at h
  obtain ⟨p', T', sr', lr', e1, e2, e3, e4, e5, e6, e7, hp⟩ := h.post rfl
  obtain ⟨Y, e9, g1, g2, _⟩ := h.a9 rfl
  obtain ⟨Y', e9', hY⟩ := e7 rfl
  obtain rfl : Y' = Y := by
    rw [e9] at e9'
    injection e9' with e
    injection e with e
    injection e with e
    exact e.symm
  obtain ⟨A1, c1, A2, c2, rfl, rfl⟩ : ∃ A1 c1 A2 c2, sr' = .slice A1 T'.ses.length c1 ∧ lr' = .slice A2 T'.lea.length c2 := by
    obtain ⟨⟨B, sv, lv, _, _, ⟨⟨A1, c1, g1, _⟩, A2, c2, g2, _⟩, _⟩, _⟩ := hp
    exact ⟨A1, c1, A2, c2, g1, g2⟩
  exact ⟨p', T', A1, A2, c1, c2, Y', e1, e2 rfl, e3 rfl, e4 rfl, e5 rfl, e6 rfl, e9, g2, h.bel, h.box, hY, hp.less (fun b hb => .inl hb)⟩
theorem JP.mv7 (h : JP D k T p sr lr X w0 li ev w) (hs : 7 < li.size) (h6 : li.getD 6 false = true) : ∃ (p' : Nat) (T' : Tb) (sr' lr' : Value), ev 36 = tupV p' T' sr' lr' ∧ JP D k T p sr lr X w0 (li.setIfInBounds 7 true) (putEv ev (some 29) (tupV p' T' sr' lr')) w := by
  unfold JP at h ⊢
  obtain ⟨p', T', sr', lr', e1, e2, e3, e4, e5, e6, e7, hp⟩ := h.post h6
  refine ⟨p', T', sr', lr', e1, ?_⟩
  rw [set_get hs, getD_set_ne false (show 7 ≠ 6 by omega), getD_set_ne false (show 7 ≠ 8 by omega), getD_set_ne false (show 7 ≠ 9 by omega), getD_set_ne false (show 7 ≠ 10 by omega), getD_set_ne false (show 7 ≠ 11 by omega), getD_set_ne false (show 7 ≠ 12 by omega), getD_set_ne false (show 7 ≠ 13 by omega), putEv_eq, putEv_ne (s := 36) (by decide), putEv_ne (s := 37) (by decide), putEv_ne (s := 38) (by decide), putEv_ne (s := 39) (by decide), putEv_ne (s := 9) (by decide), putEv_ne (s := 8) (by decide)]
  exact ⟨h.a9, h.bel, h.box, h.pre, fun _ => ⟨p', T', sr', lr', e1, (fun _ => rfl), e3, e4, e5, e6, e7, hp⟩⟩
theorem JP.mv8 (h : JP D k T p sr lr X w0 li ev w) (hs : 8 < li.size) (h6 : li.getD 6 false = true) (h7 : li.getD 7 false = true) : ∃ (p' : Nat) (T' : Tb) (sr' lr' : Value), ev 29 = tupV p' T' sr' lr' ∧ JP D k T p sr lr X w0 (li.setIfInBounds 8 true) (putEv ev (some 37) (.pointer (some ⟨p', 0, none⟩))) w := by
  unfold JP at h ⊢
  obtain ⟨p', T', sr', lr', e1, e2, e3, e4, e5, e6, e7, hp⟩ := h.post h6
  refine ⟨p', T', sr', lr', e2 h7, ?_⟩
  rw [set_get hs, getD_set_ne false (show 8 ≠ 6 by omega), getD_set_ne false (show 8 ≠ 7 by omega), getD_set_ne false (show 8 ≠ 9 by omega), getD_set_ne false (show 8 ≠ 10 by omega), getD_set_ne false (show 8 ≠ 11 by omega), getD_set_ne false (show 8 ≠ 12 by omega), getD_set_ne false (show 8 ≠ 13 by omega), putEv_eq, putEv_ne (s := 36) (by decide), putEv_ne (s := 29) (by decide), putEv_ne (s := 38) (by decide), putEv_ne (s := 39) (by decide), putEv_ne (s := 9) (by decide), putEv_ne (s := 8) (by decide)]
  exact ⟨h.a9, h.bel, h.box, h.pre, fun _ => ⟨p', T', sr', lr', e1, e2, (fun _ => rfl), e4, e5, e6, e7, hp⟩⟩
theorem JP.mv9 (h : JP D k T p sr lr X w0 li ev w) (hs : 9 < li.size) (h6 : li.getD 6 false = true) (h7 : li.getD 7 false = true) : ∃ (p' : Nat) (T' : Tb) (sr' lr' : Value), ev 29 = tupV p' T' sr' lr' ∧ JP D k T p sr lr X w0 (li.setIfInBounds 9 true) (putEv ev (some 38) (refV T' sr' lr')) w := by
  unfold JP at h ⊢
  obtain ⟨p', T', sr', lr', e1, e2, e3, e4, e5, e6, e7, hp⟩ := h.post h6
  refine ⟨p', T', sr', lr', e2 h7, ?_⟩
  rw [set_get hs, getD_set_ne false (show 9 ≠ 6 by omega), getD_set_ne false (show 9 ≠ 7 by omega), getD_set_ne false (show 9 ≠ 8 by omega), getD_set_ne false (show 9 ≠ 10 by omega), getD_set_ne false (show 9 ≠ 11 by omega), getD_set_ne false (show 9 ≠ 12 by omega), getD_set_ne false (show 9 ≠ 13 by omega), putEv_eq, putEv_ne (s := 36) (by decide), putEv_ne (s := 29) (by decide), putEv_ne (s := 37) (by decide), putEv_ne (s := 39) (by decide), putEv_ne (s := 9) (by decide), putEv_ne (s := 8) (by decide)]
  exact ⟨h.a9, h.bel, h.box, h.pre, fun _ => ⟨p', T', sr', lr', e1, e2, e3, (fun _ => rfl), e5, e6, e7, hp⟩⟩
theorem JP.mv10 (h : JP D k T p sr lr X w0 li ev w) (hs : 10 < li.size) (h6 : li.getD 6 false = true) (h7 : li.getD 7 false = true) : ∃ (p' : Nat) (T' : Tb) (sr' lr' : Value), ev 29 = tupV p' T' sr' lr' ∧ JP D k T p sr lr X w0 (li.setIfInBounds 10 true) (putEv ev (some 39) (.bool true)) w := by
  unfold JP at h ⊢
  obtain ⟨p', T', sr', lr', e1, e2, e3, e4, e5, e6, e7, hp⟩ := h.post h6
  refine ⟨p', T', sr', lr', e2 h7, ?_⟩
  rw [set_get hs, getD_set_ne false (show 10 ≠ 6 by omega), getD_set_ne false (show 10 ≠ 7 by omega), getD_set_ne false (show 10 ≠ 8 by omega), getD_set_ne false (show 10 ≠ 9 by omega), getD_set_ne false (show 10 ≠ 11 by omega), getD_set_ne false (show 10 ≠ 12 by omega), getD_set_ne false (show 10 ≠ 13 by omega), putEv_eq, putEv_ne (s := 36) (by decide), putEv_ne (s := 29) (by decide), putEv_ne (s := 37) (by decide), putEv_ne (s := 38) (by decide), putEv_ne (s := 9) (by decide), putEv_ne (s := 8) (by decide)]
  exact ⟨h.a9, h.bel, h.box, h.pre, fun _ => ⟨p', T', sr', lr', e1, e2, e3, e4, (fun _ => rfl), e6, e7, hp⟩⟩
theorem JP.mv12 (h : JP D k T p sr lr X w0 li ev w) (hs : 12 < li.size) (h6 : li.getD 6 false = true) (h7 : li.getD 8 false = true) : ∃ (p' : Nat) (T' : Tb) (sr' lr' : Value), ev 37 = .pointer (some ⟨p', 0, none⟩) ∧ JP D k T p sr lr X w0 (li.setIfInBounds 12 true) (putEv ev (some 8) (.pointer (some ⟨p', 0, none⟩))) w := by
  unfold JP at h ⊢
  obtain ⟨p', T', sr', lr', e1, e2, e3, e4, e5, e6, e7, hp⟩ := h.post h6
  refine ⟨p', T', sr', lr', e3 h7, ?_⟩
  rw [set_get hs, getD_set_ne false (show 12 ≠ 6 by omega), getD_set_ne false (show 12 ≠ 7 by omega), getD_set_ne false (show 12 ≠ 8 by omega), getD_set_ne false (show 12 ≠ 9 by omega), getD_set_ne false (show 12 ≠ 10 by omega), getD_set_ne false (show 12 ≠ 11 by omega), getD_set_ne false (show 12 ≠ 13 by omega), putEv_eq, putEv_ne (s := 36) (by decide), putEv_ne (s := 29) (by decide), putEv_ne (s := 37) (by decide), putEv_ne (s := 38) (by decide), putEv_ne (s := 39) (by decide), putEv_ne (s := 9) (by decide)]
  exact ⟨h.a9, h.bel, h.box, h.pre, fun _ => ⟨p', T', sr', lr', e1, e2, e3, e4, e5, (fun _ => rfl), e7, hp⟩⟩
end
def PhiD (p b o k n c X : Nat) (T : Tb) (sr lr : Value) (x : Ac) : Nat → Value → Prop
  | 30, v => v = .pointer (some ⟨p, 0, none⟩)
  | 31, v => v = refV T sr lr
  | 32, v => v = .slice (some ⟨b, o, none⟩) n c
  | 33, v => v = .int .i64 (k : Int)
  | 34, v => v = .pointer (some ⟨b, o + k * 6, none⟩)
  | 35, v => v = .agg #[.int .u8 x.k, .bool x.r, .int .i64 x.l, .int .i64 x.u, .int .i64 x.f, .string x.s]
  | _, _ => True
/-- v is a row of numbers. -/
def RowS (S : List Int) (v : Value) (w : World) : Prop := ∃ A c, v = .slice A S.length c ∧ IntsAt w A S
/-- v is a row of leases. -/
def RowL (L : List Ls) (v : Value) (w : World) : Prop := ∃ A c, v = .slice A L.length c ∧ LeasAt w A L
def PhiEY (p : Nat) (now : Int) (T : Tb) (sr lr : Value) (tx : ByteArray) (S : List Int) (L : List Ls) : Nat → Value → Prop
  | 44, v => v = .pointer (some ⟨p, 0, none⟩)
  | 45, v => v = .string tx
  | 46, v => v = refV T sr lr
  | 47, v => v = .string tx
  | 48, v => v = .bool false
  | 49, v => v = .bool false
  | 50, v => v = .pointer (some ⟨p, 0, none⟩)
  | 52, v => v = refV T sr lr
  | 54, v => v = .bool true
  | 55, v => v = .bool false
  | 56, v => v = .bool false
  | 57, v => v = .bool false
  | 58, v => v = .pointer (some ⟨p, 0, none⟩)
  | 59, v => v = .int .i64 now
  | 61, v => v = refV T sr lr
  | 62, v => v = .int .i64 now
  | 64, v => v = .bool true
  | 65, v => v = .bool false
  | 66, v => v = .bool false
  | _, _ => True
def PhiE (p : Nat) (now : Int) (T : Tb) (sr lr : Value) (tx : ByteArray) (S : List Int) (L : List Ls) (sl : Nat) (v : Value) (w : World) : Prop := PhiEY p now T sr lr tx S L sl v ∧ (sl = 51 ∨ sl = 53 → RowS S v w) ∧ (sl = 60 ∨ sl = 63 → RowL L v w)
theorem PhiE.ext (p : Nat) (now : Int) (T : Tb) (sr lr : Value) (tx : ByteArray) (S : List Int) (L : List Ls) {w w' : World} (hb : Below w.heap.size w w') : ∀ sl v, PhiE p now T sr lr tx S L sl v w → PhiE p now T sr lr tx S L sl v w' := fun sl v h => ⟨h.1, fun e => let ⟨A, c, h1, h2⟩ := h.2.1 e; ⟨A, c, h1, h2.ext hb⟩, fun e => let ⟨A, c, h1, h2⟩ := h.2.2 e; ⟨A, c, h1, RowAt.ext h2 hb⟩⟩
def zerL : List Value := [.string ⟨#[]⟩, .int .i64 0, .int .i64 0, .int .i64 0]
/-- On the way through the region of the reference's Holder. -/
def JH (w0 : World) (vs : List Value) (li : Array Bool) (ev : Nat → Value) (w : World) : Prop :=
  Below w0.heap.size w0 w ∧ (li.getD 11 false = true → ∃ Y, ev 13 = .pointer (some ⟨Y, 0, none⟩) ∧ w0.heap.size ≤ Y ∧ (li.getD 12 false = false → Held w Y zerL) ∧ (li.getD 12 false = true → Held w Y vs))
section
variable {w0 : World} {vs : List Value} {li : Array Bool} {ev : Nat → Value} {w w' : World}
theorem JH.start {n : Nat} : JH w0 vs (Array.replicate n false) ev { w0 with drawn := w0.drawn + 1 } :=
  ⟨(Below.refl _ _).drew, fun h => by rw [getD_replicate_false] at h; cases h⟩
theorem JH.pure (h : JH w0 vs li ev w) {i d : Nat} {v : Value} (hi : i < 11) (hd : d ≠ 13) (hb : Below w.heap.size w w') : JH w0 vs (li.setIfInBounds i true) (putEv ev (some d) v) w' := by
  unfold JH at h ⊢
  rw [getD_set_ne false (show i ≠ 11 by omega), getD_set_ne false (show i ≠ 12 by omega), putEv_ne (s := 13) (fun e => hd (Option.some.inj e))]
  refine ⟨h.1.trans (hb.mono h.1.size), fun e => ?_⟩
  obtain ⟨Y, e9, h1, h2, h3⟩ := h.2 e
  exact ⟨Y, e9, h1, fun e => (h2 e).ext hb, fun e => (h3 e).ext hb⟩
theorem JH.al {t : TypeId} (h : JH w0 vs li ev w) (hs : 11 < li.size) (h12 : li.getD 12 false = false) : JH w0 vs (li.setIfInBounds 11 true) (putEv ev (some 13) (.pointer (some ⟨w.heap.size, 0, none⟩))) (w.alloc (.cells zerL.toArray t (0, 0))) := by
  unfold JH at h ⊢
  rw [set_get hs, getD_set_ne false (show 11 ≠ 12 by omega), putEv_eq, h12]
  exact ⟨h.1.alloc h.1.size _, fun _ => ⟨_, rfl, h.1.size, (fun _ => Held.new rfl), (fun e => by cases e)⟩⟩
theorem JH.st {a b c d : Value} (h : JH w0 [a, b, c, d] li ev w) (hs : 12 < li.size) (h11 : li.getD 11 false = true) (h12 : li.getD 12 false = false) {v : Value} :
    ∃ Y : Nat, ev 13 = .pointer (some ⟨Y, 0, none⟩) ∧ Held w Y zerL ∧ ∀ w', w' = (((w.setCell ⟨Y, 0, none⟩ a).setCell ⟨Y, 1, none⟩ b).setCell ⟨Y, 2, none⟩ c).setCell ⟨Y, 3, none⟩ d → JH w0 [a, b, c, d] (li.setIfInBounds 12 true) (putEv ev none v) w' := by
  unfold JH at h ⊢
  obtain ⟨Y, e9, h1, h2, h3⟩ := h.2 h11
  refine ⟨Y, e9, h2 h12, fun w' hw => ?_⟩
  rw [set_get hs, getD_set_ne false (show 12 ≠ 11 by omega), putEv_ne (s := 13) (by decide)]
  have hH : Held w' Y [a, b, c, d] := by rw [hw]; exact ((((h2 h12).set 0 _).set 1 _).set 2 _).set 3 _
  refine ⟨?_, fun _ => ⟨Y, e9, h1, (fun e => by cases e), (fun _ => hH)⟩⟩
  rw [hw]
  exact (((h.1.setCell (p := ⟨Y, 0, none⟩) h1 _).setCell (p := ⟨Y, 1, none⟩) h1 _).setCell (p := ⟨Y, 2, none⟩) h1 _).setCell (p := ⟨Y, 3, none⟩) h1 _
theorem JH.fin (h : JH w0 vs li ev w) (hl : ∀ i, i < 13 → li.getD i false = true) : ∃ Y, ev 13 = .pointer (some ⟨Y, 0, none⟩) ∧ Held w Y vs ∧ Below w0.heap.size w0 w := by
  unfold JH at h
  obtain ⟨Y, e9, h1, h2, h3⟩ := h.2 (hl 11 (by omega))
  exact ⟨Y, e9, h3 (hl 12 (by omega)), h.1⟩
end
def tHV (r : List UInt8) (s f u : Int) (b : Bool) : Value := .tuple #[.agg #[.string (sB r), .int .i64 s, .int .i64 f, .int .i64 u], .bool b]
def PhiH (b o k n c : Nat) (now : Int) (T : Tb) (sr lr : Value) (r r' : List UInt8) (s f u : Int) (hb : Bool) : Nat → Value → Prop
  | 79, v => v = refV T sr lr
  | 80, v => v = .int .i64 now
  | 81, v => v = .slice (some ⟨b, o, none⟩) n c
  | 82, v => v = .int .i64 (k : Int)
  | 83, v => v = .pointer (some ⟨b, o + k * 6, none⟩)
  | 84, v => v = .pointer (some ⟨b, o + k * 6 + 5, none⟩)
  | 85, v => v = .string (sB r)
  | 86, v => v = tHV r' s f u hb
  | 78, v => v = tHV r' s f u hb
  | 87, v => v = .agg #[.string (sB r'), .int .i64 s, .int .i64 f, .int .i64 u]
  | 88, v => v = .bool hb
  | _, _ => True
set_option maxRecDepth 100000 in
set_option maxHeartbeats 8000000 in
theorem plays_law (v : Value) (n : Nat) (now : Int) (w : World) (ha : ActsAt w w.heap.size v n) (hw : Wd w) :
    Calls Tryz.prog 4 #[v, .int .i64 now] w fun e w' => e = .returned (.bool true) ∧ Below w.heap.size w w' := by
  obtain ⟨hn, SA, c, rfl, hact⟩ := ha
  have HW := Lib.hid hw
  have HACT := Lib.hid hact
  clear hw hact
  obtain ⟨D, hD⟩ : ∃ D, D = w.heap.size := ⟨_, rfl⟩
  rw [← hD] at HACT ⊢
  have HDD := Lib.hid hD
  clear hD
  go_enter Tryz.func4, Tryz.ntmps4
  go_wp2_with fail
  refine (awake_any w HW.out.tab).mono ?_
  rintro e w1 ⟨rfl, hb⟩
  have G1 := Lib.hid (show Below D w w1 from HDD.out ▸ hb)
  clear hb
  go_wp2_with fail
  refine (new_any w1).mono ?_
  rintro e w2 ⟨rfl, h2, b2, hz2⟩
  have HB2 := Lib.hid b2
  have HR2 := Lib.hid h2
  clear b2 h2 hz2
  go_wp2_with fail
  generalize hw3 : World.alloc w2 _ = w3
  have R3 := Lib.hid (show RndP D 0 tb0 w1.heap.size (.slice none 0 0) (.slice none 0 0) w2.heap.size w w3 from RndP.start (by have := G1.out.size; have := HDD.out; omega) G1.out HR2.out HB2.out hw3.symm)
  obtain ⟨X, hX⟩ : ∃ X, X = w2.heap.size := ⟨_, rfl⟩
  rw [← hX] at R3 ⊢
  generalize w1.heap.size = p0 at R3 ⊢
  have hDX : D ≤ X := by
    obtain ⟨⟨B, sv, lv, hDB, hrep, href, hout⟩, hinv⟩ := R3.out.play
    have := HR2.out.lt
    have := G1.out.size
    have := HDD.out
    omega
  clear hw3 hX G1 HB2 HR2
  go_loopw [5, 7] (fun a i wr => ∃ (k : Nat) (T : Tb) (p : Nat) (sr lr : Value), k ≤ 24 ∧ k ≤ n ∧ a = .pointer (some ⟨p, 0, none⟩) ∧ i = .int .i64 k ∧ Hid (RndP D k T p sr lr X w wr)) (fun _ i _ => 24 - (intOf i).toNat)
  case atStart => exact ⟨0, tb0, p0, _, _, by omega, by omega, rfl, rfl, R3⟩
  case round =>
    obtain ⟨k, T, p, sr, lr, hk, hkn, rfl, rfl, RR⟩ := hrel
    by_cases hlt : k < 24 ∧ k < n
    · obtain ⟨h24, hkn'⟩ := hlt
      obtain ⟨b, o, x, rfl, hb, ⟨hkd, hsx⟩, hcell⟩ := HACT.out k hkn'
      obtain ⟨q0, q1, q2, q3, q4, q5⟩ := acts_cells hcell hb RR.out.bel
      have HC := Lib.hid hcell
      have HKD := Lib.hid hkd
      have HSX := Lib.hid hsx
      have hbr : b < wr.heap.size := World.block_lt_of_cell? wr _ q0
      have hXr : X < wr.heap.size := RR.out.box.lt
      have HBX := Lib.hid RR.out.box.cell
      clear hcell hkd hsx
      have h24i : (k : Int) < 24 := by omega
      have hkni : (k : Int) < (n : Int) := by omega
      go_wp2_with fail
      refine wp_region_told 14 (by kernel_rfl) (JP D k T p sr lr X wr) (fun sl v _ => PhiD p b o k n c X T sr lr x sl v) 97 rfl (by kernel_rfl) (by kernel_rfl) (by kernel_rfl) (by kernel_rfl) (by kernel_rfl) (JP.start RR.out) ?hops ?hend
      case hops =>
        refine ⟨?o0, ?o1, ?o2, ?o3, ?o4, ?o5, ?o6, ?o7, ?o8, ?o9, ?o10, ?o11, ?o12, ?o13, trivial⟩
        case o0 =>
          intro ev w8 li hJ hsz hun hcl hli hdep hfree
          have a5 : ev 5 = .pointer (some ⟨p, 0, none⟩) := hfree 5 (by kernel_rfl)
          clear hdep hfree hcl hli
          try dsimp only
          simp [OpRuns, execOp, evalOf, a5, go_sem]
          exact ⟨hJ.pure (by omega) (by omega), rfl⟩
        case o1 =>
          intro ev w8 li hJ hsz hun hcl hli hdep hfree
          have a6 : ev 6 = .pointer (some ⟨X, 0, none⟩) := hfree 6 (by kernel_rfl)
          have hbx := hJ.box.cell
          have y0 : w8.cell? ⟨X, 0, none⟩ = some (.int .i64 T.now) := hbx 0
          have y1 : w8.cell? ⟨X, 1, none⟩ = some (.int .i64 T.ls) := hbx 1
          have y2 : w8.cell? ⟨X, 2, none⟩ = some (.int .i64 T.lf) := hbx 2
          have y3 : w8.cell? ⟨X, 3, none⟩ = some (sr) := hbx 3
          have y4 : w8.cell? ⟨X, 4, none⟩ = some (lr) := hbx 4
          clear hdep hfree hcl hli hbx
          try dsimp only
          simp [OpRuns, execOp, evalOf, a6, y0, y1, y2, y3, y4, go_sem]
          exact ⟨hJ.pure (by omega) (by omega), rfl⟩
        case o2 =>
          intro ev w8 li hJ hsz hun hcl hli hdep hfree
          have a0 : ev 0 = .slice (some ⟨b, o, none⟩) n c := hfree 0 (by kernel_rfl)
          clear hdep hfree hcl hli
          try dsimp only
          simp [OpRuns, execOp, evalOf, a0, go_sem]
          exact ⟨hJ.pure (by omega) (by omega), rfl⟩
        case o3 =>
          intro ev w8 li hJ hsz hun hcl hli hdep hfree
          have a7 : ev 7 = .int .i64 (k : Int) := hfree 7 (by kernel_rfl)
          clear hdep hfree hcl hli
          try dsimp only
          simp [OpRuns, execOp, evalOf, a7, go_sem]
          exact ⟨hJ.pure (by omega) (by omega), rfl⟩
        case o4 =>
          intro ev w8 li hJ hsz hun hcl hli hdep hfree
          have a32 : ev 32 = .slice (some ⟨b, o, none⟩) n c := hdep 2 32 (by kernel_rfl) (by kernel_rfl)
          have a33 : ev 33 = .int .i64 (k : Int) := hdep 3 33 (by kernel_rfl) (by kernel_rfl)
          clear hdep hfree hcl hli
          try dsimp only
          simp [OpRuns, execOp, evalOf, a32, a33, hkn', go_sem]
          exact ⟨hJ.pure (by omega) (by omega), rfl⟩
        case o5 =>
          intro ev w8 li hJ hsz hun hcl hli hdep hfree
          have a34 : ev 34 = .pointer (some ⟨b, o + k * 6, none⟩) := hdep 4 34 (by kernel_rfl) (by kernel_rfl)
          obtain ⟨y0, y1, y2, y3, y4, y5⟩ := acts_cells HC.out hb (RR.out.bel.trans hJ.bel)
          clear hdep hfree hcl hli
          try dsimp only
          simp [OpRuns, execOp, evalOf, a34, y0, y1, y2, y3, y4, y5, go_sem]
          exact ⟨hJ.pure (by omega) (by omega), rfl⟩
        case o6 =>
          intro ev w8 li hJ hsz hun hcl hli hdep hfree
          have a30 : ev 30 = .pointer (some ⟨p, 0, none⟩) := hdep 0 30 (by kernel_rfl) (by kernel_rfl)
          have a31 : ev 31 = refV T sr lr := hdep 1 31 (by kernel_rfl) (by kernel_rfl)
          have a35 : ev 35 = .agg #[.int .u8 x.k, .bool x.r, .int .i64 x.l, .int .i64 x.u, .int .i64 x.f, .string x.s] := hdep 5 35 (by kernel_rfl) (by kernel_rfl)
          have hs : li.size = 15 := hsz.trans (by kernel_rfl)
          have n7 : li.getD 7 false = false := Bool.eq_false_iff.2 fun h => by rw [hcl 7 6 h (by kernel_rfl)] at hun; cases hun
          have n8 : li.getD 8 false = false := Bool.eq_false_iff.2 fun h => by rw [hcl 8 7 h (by kernel_rfl)] at n7; cases n7
          have n9 : li.getD 9 false = false := Bool.eq_false_iff.2 fun h => by rw [hcl 9 7 h (by kernel_rfl)] at n7; cases n7
          have n10 : li.getD 10 false = false := Bool.eq_false_iff.2 fun h => by rw [hcl 10 7 h (by kernel_rfl)] at n7; cases n7
          have n12 : li.getD 12 false = false := Bool.eq_false_iff.2 fun h => by rw [hcl 12 8 h (by kernel_rfl)] at n8; cases n8
          have n13 : li.getD 13 false = false := Bool.eq_false_iff.2 fun h => by rw [hcl 13 9 h (by kernel_rfl)] at n9; cases n9
          clear hdep hfree hcl hli
          have hD8 : D ≤ w8.heap.size := by have := hJ.bel.size; omega
          have hW8 : Wd w8 := HW.out.on (HDD.out ▸ (RR.out.bel.trans hJ.bel))
          have HPL := hJ.pre hun
          try dsimp only
          refine runs_call (f := 11) (args := #[.pointer (some ⟨p, 0, none⟩), refV T sr lr, .agg #[.int .u8 x.k, .bool x.r, .int .i64 x.l, .int .i64 x.u, .int .i64 x.f, .string x.s]]) (by simp [execOp, evalOf, resolve, invoke, a30, a31, a35, go_sem]) ((do_any D k T p sr lr _ x.k x.r x.l x.u x.f x.s w8 HPL (by omega) hD8 HKD.out HSX.out hW8).mono ?_)
          rintro e w9 ⟨p', T', sr', lr', he, hpl, hb9, hE⟩
          exact ⟨_, he, JP.call hJ (by omega) hun n7 n8 n9 n10 n12 n13 hpl hb9 hE, fun j s u _ _ h => h, fun d hd => by cases hd; exact trivial⟩
        case o7 =>
          intro ev w8 li hJ hsz hun hcl hli hdep hfree
          have hs : li.size = 15 := hsz.trans (by kernel_rfl)
          obtain ⟨p', T', sr', lr', ae, hJ'⟩ := hJ.mv7 (by omega) (hli 6 (by kernel_rfl))
          clear hdep hfree hcl hli
          unfold tupV at ae
          try dsimp only
          simp [OpRuns, execOp, evalOf, ae, go_sem]
          exact ⟨hJ', trivial⟩
        case o8 =>
          intro ev w8 li hJ hsz hun hcl hli hdep hfree
          have hs : li.size = 15 := hsz.trans (by kernel_rfl)
          have l7 := hli 7 (by kernel_rfl)
          obtain ⟨p', T', sr', lr', ae, hJ'⟩ := hJ.mv8 (by omega) (hcl 7 6 l7 (by kernel_rfl)) l7
          clear hdep hfree hcl hli
          unfold tupV at ae
          try dsimp only
          simp [OpRuns, execOp, evalOf, ae, go_sem]
          exact ⟨hJ', trivial⟩
        case o9 =>
          intro ev w8 li hJ hsz hun hcl hli hdep hfree
          have hs : li.size = 15 := hsz.trans (by kernel_rfl)
          have l7 := hli 7 (by kernel_rfl)
          obtain ⟨p', T', sr', lr', ae, hJ'⟩ := hJ.mv9 (by omega) (hcl 7 6 l7 (by kernel_rfl)) l7
          clear hdep hfree hcl hli
          unfold tupV at ae
          try dsimp only
          simp [OpRuns, execOp, evalOf, ae, go_sem]
          exact ⟨hJ', trivial⟩
        case o10 =>
          intro ev w8 li hJ hsz hun hcl hli hdep hfree
          have hs : li.size = 15 := hsz.trans (by kernel_rfl)
          have l7 := hli 7 (by kernel_rfl)
          obtain ⟨p', T', sr', lr', ae, hJ'⟩ := hJ.mv10 (by omega) (hcl 7 6 l7 (by kernel_rfl)) l7
          clear hdep hfree hcl hli
          unfold tupV at ae
          try dsimp only
          simp [OpRuns, execOp, evalOf, ae, go_sem]
          exact ⟨hJ', trivial⟩
        case o11 =>
          intro ev w8 li hJ hsz hun hcl hli hdep hfree
          have hs : li.size = 15 := hsz.trans (by kernel_rfl)
          have n13 : li.getD 13 false = false := Bool.eq_false_iff.2 fun h => by rw [hcl 13 11 h (by kernel_rfl)] at hun; cases hun
          clear hdep hfree hcl hli
          have hD8 : D ≤ w8.heap.size := by have := hJ.bel.size; omega
          have hJ' := fun (t : TypeId) => JP.al (t := t) hJ (by omega) hun n13 hD8
          try dsimp only
          simp [OpRuns, execOp, evalOf, go_sem]
          exact ⟨hJ' _, trivial⟩
        case o12 =>
          intro ev w8 li hJ hsz hun hcl hli hdep hfree
          have hs : li.size = 15 := hsz.trans (by kernel_rfl)
          have l8 := hli 8 (by kernel_rfl)
          have l7 := hcl 8 7 l8 (by kernel_rfl)
          obtain ⟨p', T', sr', lr', ae, hJ'⟩ := hJ.mv12 (by omega) (hcl 7 6 l7 (by kernel_rfl)) l8
          clear hdep hfree hcl hli
          try dsimp only
          simp [OpRuns, execOp, evalOf, ae, go_sem]
          exact ⟨hJ', trivial⟩
        case o13 =>
          intro ev w8 li hJ hsz hun hcl hli hdep hfree
          have hs : li.size = 15 := hsz.trans (by kernel_rfl)
          have l9 := hli 9 (by kernel_rfl)
          have l11 := hli 11 (by kernel_rfl)
          have l7 := hcl 9 7 l9 (by kernel_rfl)
          obtain ⟨T', A1, A2, c1, c2, Y, a9, a38, hH, hJ'⟩ := hJ.st (v := undef) (by omega) (hcl 7 6 l7 (by kernel_rfl)) l9 l11 hun
          have hc := hH.cell
          have hf := hH.free
          have y0 : w8.cell? ⟨Y, 0, none⟩ = some (.int .i64 0) := hc 0
          have f0 : w8.frozen? ⟨Y, 0, none⟩ = false := hf 0
          have y1 : w8.cell? ⟨Y, 1, none⟩ = some (.int .i64 0) := hc 1
          have f1 : w8.frozen? ⟨Y, 1, none⟩ = false := hf 1
          have y2 : w8.cell? ⟨Y, 2, none⟩ = some (.int .i64 0) := hc 2
          have f2 : w8.frozen? ⟨Y, 2, none⟩ = false := hf 2
          have y3 : w8.cell? ⟨Y, 3, none⟩ = some (.slice none 0 0) := hc 3
          have f3 : w8.frozen? ⟨Y, 3, none⟩ = false := hf 3
          have y4 : w8.cell? ⟨Y, 4, none⟩ = some (.slice none 0 0) := hc 4
          have f4 : w8.frozen? ⟨Y, 4, none⟩ = false := hf 4
          clear hdep hfree hcl hli hc hf
          try dsimp only
          simp [OpRuns, execOp, evalOf, a9, a38, y0, y1, y2, y3, y4, f0, f1, f2, f3, f4, go_sem]
          exact hJ' _ rfl
      case hend =>
        intro li a w6 hall hdf hsz hJ hPhi hkept
        replace hdf : a.defers = [] := hdf
        replace hsz : a.tmps.size = 97 := hsz
        obtain ⟨p', T', A1, A2, c1, c2, Y, x36, x29, x37, x38, x39, x8, x9, hYX, hb6, hX6, hY6, hp6⟩ := hJ.fin hall
        have x30 : a.tmps.getD 30 undef = .pointer (some ⟨p, 0, none⟩) := hPhi 0 30 (by omega) (by kernel_rfl)
        have x31 : a.tmps.getD 31 undef = refV T sr lr := hPhi 1 31 (by omega) (by kernel_rfl)
        have x32 : a.tmps.getD 32 undef = .slice (some ⟨b, o, none⟩) n c := hPhi 2 32 (by omega) (by kernel_rfl)
        have x33 : a.tmps.getD 33 undef = .int .i64 (k : Int) := hPhi 3 33 (by omega) (by kernel_rfl)
        have x34 : a.tmps.getD 34 undef = .pointer (some ⟨b, o + k * 6, none⟩) := hPhi 4 34 (by omega) (by kernel_rfl)
        have x35 : a.tmps.getD 35 undef = .agg #[.int .u8 x.k, .bool x.r, .int .i64 x.l, .int .i64 x.u, .int .i64 x.f, .string x.s] := hPhi 5 35 (by omega) (by kernel_rfl)
        have x0 : a.tmps.getD 0 undef = Value.slice (some { block := b, off := o }) n c := hkept 0 (kept_front (by kernel_rfl))
        have x1 : a.tmps.getD 1 undef = Value.int IntKind.i64 now := hkept 1 (kept_front (by kernel_rfl))
        have x2 : a.tmps.getD 2 undef = undef := hkept 2 (kept_front (by kernel_rfl))
        have x3 : a.tmps.getD 3 undef = undef := hkept 3 (kept_front (by kernel_rfl))
        have x5 : a.tmps.getD 5 undef = Value.pointer (some { block := p, off := 0 }) := hkept 5 (kept_front (by kernel_rfl))
        have x6 : a.tmps.getD 6 undef = Value.pointer (some { block := X, off := 0 }) := hkept 6 (kept_front (by kernel_rfl))
        have x7 : a.tmps.getD 7 undef = Value.int IntKind.i64 (↑k : Int) := hkept 7 (kept_front (by kernel_rfl))
        have x15 : a.tmps.getD 15 undef = Value.bool true := hkept 15 (kept_front (by kernel_rfl))
        have x16 : a.tmps.getD 16 undef = Value.bool false := hkept 16 (kept_front (by kernel_rfl))
        have x17 : a.tmps.getD 17 undef = Value.pointer (some { block := p0, off := 0 }) := hkept 17 (kept_front (by kernel_rfl))
        have x18 : a.tmps.getD 18 undef = Value.agg #[Value.int IntKind.i64 0, Value.int IntKind.i64 0, Value.int IntKind.i64 0, Value.slice none 0 0, Value.slice none 0 0] := hkept 18 (kept_front (by kernel_rfl))
        have x19 : a.tmps.getD 19 undef = Value.int IntKind.i64 (↑k : Int) := hkept 19 (kept_front (by kernel_rfl))
        have x20 : a.tmps.getD 20 undef = Value.slice (some { block := b, off := o }) n c := hkept 20 (kept_front (by kernel_rfl))
        have x21 : a.tmps.getD 21 undef = Value.int IntKind.i64 (↑n : Int) := hkept 21 (kept_front (by kernel_rfl))
        have x22 : a.tmps.getD 22 undef = Value.bool true := hkept 22 (kept_front (by kernel_rfl))
        have x23 : a.tmps.getD 23 undef = Value.bool true := hkept 23 (kept_front (by kernel_rfl))
        have x24 : a.tmps.getD 24 undef = Value.int IntKind.i64 (↑k : Int) := hkept 24 (kept_front (by kernel_rfl))
        have x25 : a.tmps.getD 25 undef = Value.bool true := hkept 25 (kept_front (by kernel_rfl))
        have x26 : a.tmps.getD 26 undef = Value.bool true := hkept 26 (kept_front (by kernel_rfl))
        have ea := act_lit hsz hdf
        simp only [getDs] at ea
        rw [x8, x9, x29, x36, x37, x38, x39, x30, x31, x32, x33, x34, x35, x0, x1, x2, x3, x5, x6, x7, x15, x16, x17, x18, x19, x20, x21, x22, x23, x24, x25, x26] at ea
        rw [ea]
        clear ea x8 x9 x29 x36 x37 x38 x39 x30 x31 x32 x33 x34 x35 x0 x1 x2 x3 x5 x6 x7 x15 x16 x17 x18 x19 x20 x21 x22 x23 x24 x25 x26 hPhi hkept hdf hsz hJ hall
        generalize a.tmps.getD 4 undef = u4
        generalize a.tmps.getD 10 undef = u10
        generalize a.tmps.getD 11 undef = u11
        generalize a.tmps.getD 12 undef = u12
        generalize a.tmps.getD 13 undef = u13
        generalize a.tmps.getD 14 undef = u14
        generalize a.tmps.getD 27 undef = u27
        generalize a.tmps.getD 28 undef = u28
        generalize a.tmps.getD 40 undef = u40
        generalize a.tmps.getD 41 undef = u41
        generalize a.tmps.getD 42 undef = u42
        generalize a.tmps.getD 43 undef = u43
        generalize a.tmps.getD 44 undef = u44
        generalize a.tmps.getD 45 undef = u45
        generalize a.tmps.getD 46 undef = u46
        generalize a.tmps.getD 47 undef = u47
        generalize a.tmps.getD 48 undef = u48
        generalize a.tmps.getD 49 undef = u49
        generalize a.tmps.getD 50 undef = u50
        generalize a.tmps.getD 51 undef = u51
        generalize a.tmps.getD 52 undef = u52
        generalize a.tmps.getD 53 undef = u53
        generalize a.tmps.getD 54 undef = u54
        generalize a.tmps.getD 55 undef = u55
        generalize a.tmps.getD 56 undef = u56
        generalize a.tmps.getD 57 undef = u57
        generalize a.tmps.getD 58 undef = u58
        generalize a.tmps.getD 59 undef = u59
        generalize a.tmps.getD 60 undef = u60
        generalize a.tmps.getD 61 undef = u61
        generalize a.tmps.getD 62 undef = u62
        generalize a.tmps.getD 63 undef = u63
        generalize a.tmps.getD 64 undef = u64
        generalize a.tmps.getD 65 undef = u65
        generalize a.tmps.getD 66 undef = u66
        generalize a.tmps.getD 67 undef = u67
        generalize a.tmps.getD 68 undef = u68
        generalize a.tmps.getD 69 undef = u69
        generalize a.tmps.getD 70 undef = u70
        generalize a.tmps.getD 71 undef = u71
        generalize a.tmps.getD 72 undef = u72
        generalize a.tmps.getD 73 undef = u73
        generalize a.tmps.getD 74 undef = u74
        generalize a.tmps.getD 75 undef = u75
        generalize a.tmps.getD 76 undef = u76
        generalize a.tmps.getD 77 undef = u77
        generalize a.tmps.getD 78 undef = u78
        generalize a.tmps.getD 79 undef = u79
        generalize a.tmps.getD 80 undef = u80
        generalize a.tmps.getD 81 undef = u81
        generalize a.tmps.getD 82 undef = u82
        generalize a.tmps.getD 83 undef = u83
        generalize a.tmps.getD 84 undef = u84
        generalize a.tmps.getD 85 undef = u85
        generalize a.tmps.getD 86 undef = u86
        generalize a.tmps.getD 87 undef = u87
        generalize a.tmps.getD 88 undef = u88
        generalize a.tmps.getD 89 undef = u89
        generalize a.tmps.getD 90 undef = u90
        generalize a.tmps.getD 91 undef = u91
        generalize a.tmps.getD 92 undef = u92
        generalize a.tmps.getD 93 undef = u93
        generalize a.tmps.getD 94 undef = u94
        generalize a.tmps.getD 95 undef = u95
        generalize a.tmps.getD 96 undef = u96
        clear a
        unfold tupV
        have HY6 := Lib.hid hY6
        have HX6 := Lib.hid hX6
        have HP6 := Lib.hid hp6
        have HB6 := Lib.hid (show Below D w w6 from RR.out.bel.trans hb6)
        have q := hX6.cell
        have hXlt := hX6.lt
        have yf := hX6.free
        have qy := hY6.cell
        have hYlt := hY6.lt
        unfold boxV at q qy
        clear hY6 hX6 hp6 hb6 q0 q1 q2 q3 q4 q5 hbr hXr RR
        go_wp2_with fail
        go_region
        simp only [Exit.inBlock, Exit.then]
        go_step
        generalize hw7 : World.drew _ = w7
        obtain ⟨sr', hsr⟩ : ∃ v, v = Value.slice A1 T'.ses.length c1 := ⟨_, rfl⟩
        obtain ⟨lr', hlr⟩ : ∃ v, v = Value.slice A2 T'.lea.length c2 := ⟨_, rfl⟩
        have HB7 := Lib.hid (show Below D w w7 from by
          rw [← hw7]
          exact (((((HB6.out.setCell (p := ⟨X, 0, none⟩) hDX _).setCell (p := ⟨X, 1, none⟩) hDX _).setCell (p := ⟨X, 2, none⟩) hDX _).setCell (p := ⟨X, 3, none⟩) hDX _).setCell (p := ⟨X, 4, none⟩) hDX _).drew)
        have HX7 := Lib.hid (show Held w7 X (boxV T' sr' lr') from by
          rw [← hw7, hsr, hlr]
          exact (((((HX6.out.set 0 _).set 1 _).set 2 _).set 3 _).set 4 _).ext (Below.refl _ _).drew)
        have HP7 := Lib.hid (show Play D (k + 1) T' p' sr' lr' (fun b => b = X) w7 from by
          rw [← hw7, hsr, hlr]
          exact (((((HP6.out.put rfl 0 _).put rfl 1 _).put rfl 2 _).put rfl 3 _).put rfl 4 _).grow (Below.refl _ _).drew (fun b hb => .inl hb))
        rw [← hsr, ← hlr]
        have HQ7 := Lib.hid HX7.out.cell
        have hX7 := HX7.out.lt
        have hD7 : D ≤ w7.heap.size := by have := HB7.out.size; have := HDD.out; omega
        clear hw7 q qy yf hXlt hYlt HX6 HY6 HP6 HB6
        have HINV := Lib.hid HP7.out.inv
        obtain ⟨B, sv, lv, hDB, hrep, href, hout⟩ := HP7.out.rep
        have HREP := Lib.hid hrep
        have HREF := Lib.hid href
        clear hrep href hout hDB
        have hW7 : Hid (∀ W, Below w7.heap.size w7 W → Wd W) := Lib.hid fun W h => HW.out.on (HDD.out ▸ (HB7.out.trans (h.mono hD7)))
        have hl1 : T'.ses.length ≤ 1000 := by have := HINV.out.snd.slen; omega
        have hl2 : T'.lea.length ≤ 1000 := by have := HINV.out.snd.llen; omega
        have hl3 : (alive now T'.lea).length ≤ 1000 := Nat.le_trans (alive_len _ _) hl2
        obtain ⟨tx, htx⟩ : ∃ t, t = sB (textT T') := ⟨_, rfl⟩
        obtain ⟨S, hS⟩ : ∃ S, S = T'.ses := ⟨_, rfl⟩
        obtain ⟨L, hL⟩ : ∃ L, L = alive now T'.lea := ⟨_, rfl⟩
        have HT1 := Lib.hid (show ∀ W, Below w7.heap.size w7 W → Calls Tryz.prog 8 #[.pointer (some ⟨p', 0, none⟩)] W fun e w' => e = .returned (.string tx) ∧ Below W.heap.size W w' from fun W h => by
          rw [htx]
          exact text_any B p' sv lv T' W (HREP.out.ext h) (snd_fit HINV.out.snd) (hW7.out W h).tab)
        have HT2 := Lib.hid (show ∀ W, Below w7.heap.size w7 W → Calls Tryz.prog 9 #[refV T' sr' lr'] W fun e w' => e = .returned (.string tx) ∧ Below W.heap.size W w' from fun W h => by
          rw [htx]
          exact textr_any T' sr' lr' W (HREF.out.ext h).ref (snd_inR HINV.out.snd) (snd_fit HINV.out.snd))
        have HS1 := Lib.hid (show ∀ W, Below w7.heap.size w7 W → Calls Tryz.prog 13 #[.pointer (some ⟨p', 0, none⟩)] W fun e w' => (∃ v, e = .returned v ∧ RowS S v w') ∧ Below W.heap.size W w' from fun W h => (sessions_any B p' 0 sv lv T' W (HREP.out.ext h) hl1 (Nat.zero_le _)).mono fun e w' ⟨v, he, ho, hb⟩ => by
            obtain ⟨A, c, hv, hi, _⟩ := ints_of_own ho
            rw [hS]
            exact ⟨⟨v, he, A, c, hv, hi⟩, hb⟩)
        have HS2 := Lib.hid (show ∀ W, Below w7.heap.size w7 W → Calls Tryz.prog 14 #[refV T' sr' lr'] W fun e w' => (∃ v, e = .returned v ∧ RowS S v w') ∧ Below W.heap.size W w' from fun W h => (sesr_any _ T' sr' lr' W (HREF.out.ext h) hl1 0 (Nat.zero_le _)).mono fun e w' ⟨⟨v, he, ho⟩, hb⟩ => by
            obtain ⟨A, c, hv, hi, _⟩ := ints_of_own ho
            rw [hS]
            exact ⟨⟨v, he, A, c, hv, hi⟩, hb⟩)
        have HL1 := Lib.hid (show ∀ W, Below w7.heap.size w7 W → Calls Tryz.prog 16 #[.pointer (some ⟨p', 0, none⟩), .int .i64 now] W fun e w' => (∃ v, e = .returned v ∧ RowL L v w') ∧ Below W.heap.size W w' from fun W h => (leases_any B p' sv lv T' now W (HREP.out.ext h) hl2).mono fun e w' ⟨⟨v, he, ho⟩, hb⟩ => by
            obtain ⟨A, c, hv, hi, _⟩ := leas_of_own ho
            rw [hL]
            exact ⟨⟨v, he, A, c, hv, hi⟩, hb⟩)
        have HL2 := Lib.hid (show ∀ W, Below w7.heap.size w7 W → Calls Tryz.prog 17 #[refV T' sr' lr', .int .i64 now] W fun e w' => (∃ v, e = .returned v ∧ RowL L v w') ∧ Below W.heap.size W w' from fun W h => (leasesr_any T' sr' lr' now W (HREF.out.ext h).ref hl2).mono fun e w' ⟨⟨v, he, ho⟩, hb⟩ => by
            obtain ⟨A, c, hv, hi, _⟩ := leas_of_own ho
            rw [hL]
            exact ⟨⟨v, he, A, c, hv, hi⟩, hb⟩)
        have HSL := Lib.hid (show S.length ≤ 1000 by rw [hS]; exact hl1)
        have HLL := Lib.hid (show L.length ≤ 1000 by rw [hL]; exact hl3)
        clear htx hS hL hl1 hl3 hsr hlr
        go_wp2_with fail
        refine wp_region_spec (by kernel_rfl) (fun w' => Below w7.heap.size w7 w') (PhiE p' now T' sr' lr' tx S L) 97 rfl (by kernel_rfl) (Below.refl _ _).drew ?hops ?hend
        case hops =>
          refine ⟨?o0, ?o1, ?o2, ?o3, ?o4, ?o5, ?o6, ?o7, ?o8, ?o9, ?o10, ?o11, ?o12, ?o13, ?o14, ?o15, ?o16, ?o17, ?o18, ?o19, ?o20, ?o21, ?o22, trivial⟩
          case o0 =>
            intro ev w8 hI hdep hfree
            have a5 : ev 5 = .pointer (some ⟨p', 0, none⟩) := hfree 5 (by kernel_rfl)
            clear hdep hfree
            try dsimp only
            simp [OpRuns, execOp, evalOf, a5, go_sem]
            first | exact ⟨hI, rfl, fun h => absurd h (by decide), fun h => absurd h (by decide)⟩ | exact ⟨hI, rfl⟩ | exact hI
          case o1 =>
            intro ev w8 hI hdep hfree
            have a44 : ev 44 = .pointer (some ⟨p', 0, none⟩) := (hdep 0 44 (by kernel_rfl) (by kernel_rfl)).1
            clear hdep hfree
            try dsimp only
            refine runs_call (f := 8) (args := #[.pointer (some ⟨p', 0, none⟩)]) (by simp [execOp, evalOf, resolve, invoke, a44, go_sem]) ((HT1.out w8 hI).mono ?_)
            rintro e w9 ⟨he, hb⟩
            exact ⟨_, he, hI.trans (hb.mono hI.size), PhiE.ext p' now T' sr' lr' tx S L hb, fun d hd => by cases hd; exact ⟨rfl, fun h => absurd h (by decide), fun h => absurd h (by decide)⟩⟩
          case o2 =>
            intro ev w8 hI hdep hfree
            have a6 : ev 6 = .pointer (some ⟨X, 0, none⟩) := hfree 6 (by kernel_rfl)
            clear hdep hfree
            have hbx := (HX7.out.ext hI).cell
            unfold boxV at hbx
            have y0 : w8.cell? ⟨X, 0, none⟩ = some (.int .i64 T'.now) := hbx 0
            have y1 : w8.cell? ⟨X, 1, none⟩ = some (.int .i64 T'.ls) := hbx 1
            have y2 : w8.cell? ⟨X, 2, none⟩ = some (.int .i64 T'.lf) := hbx 2
            have y3 : w8.cell? ⟨X, 3, none⟩ = some (sr') := hbx 3
            have y4 : w8.cell? ⟨X, 4, none⟩ = some (lr') := hbx 4
            clear hbx
            try dsimp only
            simp [OpRuns, execOp, evalOf, a6, y0, y1, y2, y3, y4, go_sem]
            first | exact ⟨hI, rfl, fun h => absurd h (by decide), fun h => absurd h (by decide)⟩ | exact ⟨hI, rfl⟩ | exact hI
          case o3 =>
            intro ev w8 hI hdep hfree
            have a46 : ev 46 = refV T' sr' lr' := (hdep 2 46 (by kernel_rfl) (by kernel_rfl)).1
            clear hdep hfree
            try dsimp only
            refine runs_call (f := 9) (args := #[refV T' sr' lr']) (by simp [execOp, evalOf, resolve, invoke, a46, go_sem]) ((HT2.out w8 hI).mono ?_)
            rintro e w9 ⟨he, hb⟩
            exact ⟨_, he, hI.trans (hb.mono hI.size), PhiE.ext p' now T' sr' lr' tx S L hb, fun d hd => by cases hd; exact ⟨rfl, fun h => absurd h (by decide), fun h => absurd h (by decide)⟩⟩
          case o4 =>
            intro ev w8 hI hdep hfree
            have a45 : ev 45 = .string tx := (hdep 1 45 (by kernel_rfl) (by kernel_rfl)).1
            have a47 : ev 47 = .string tx := (hdep 3 47 (by kernel_rfl) (by kernel_rfl)).1
            clear hdep hfree
            try dsimp only
            simp [OpRuns, execOp, evalOf, a45, a47, go_sem]
            first | exact ⟨hI, rfl, fun h => absurd h (by decide), fun h => absurd h (by decide)⟩ | exact ⟨hI, rfl⟩ | exact hI
          case o5 =>
            intro ev w8 hI hdep hfree
            have a48 : ev 48 = .bool false := (hdep 4 48 (by kernel_rfl) (by kernel_rfl)).1
            clear hdep hfree
            try dsimp only
            simp [OpRuns, execOp, evalOf, a48, go_sem]
            first | exact ⟨hI, rfl, fun h => absurd h (by decide), fun h => absurd h (by decide)⟩ | exact ⟨hI, rfl⟩ | exact hI
          case o6 =>
            intro ev w8 hI hdep hfree
            have a5 : ev 5 = .pointer (some ⟨p', 0, none⟩) := hfree 5 (by kernel_rfl)
            have hg : ev 49 = .bool false := (hdep 5 49 (by kernel_rfl) (by kernel_rfl)).1
            refine ⟨fun _ => ?_, fun hno => absurd (show yieldedEv _ ev 5 = some false by simp only [yieldedEv, dstOf, hg]; simp [hg]) hno⟩
            clear hdep hfree
            try dsimp only
            simp [OpRuns, execOp, evalOf, a5, go_sem]
            first | exact ⟨hI, rfl, fun h => absurd h (by decide), fun h => absurd h (by decide)⟩ | exact ⟨hI, rfl⟩ | exact hI
          case o7 =>
            intro ev w8 hI hdep hfree
            have a50 : ev 50 = .pointer (some ⟨p', 0, none⟩) := (hdep 6 50 (by kernel_rfl) (by kernel_rfl)).1
            have hg : ev 49 = .bool false := (hdep 5 49 (by kernel_rfl) (by kernel_rfl)).1
            refine ⟨fun _ => ?_, fun hno => absurd (show yieldedEv _ ev 5 = some false by simp only [yieldedEv, dstOf, hg]; simp [hg]) hno⟩
            clear hdep hfree
            try dsimp only
            refine runs_call (f := 13) (args := #[.pointer (some ⟨p', 0, none⟩)]) (by simp [execOp, evalOf, resolve, invoke, a50, go_sem]) ((HS1.out w8 hI).mono ?_)
            rintro e w9 ⟨⟨v, he, hr⟩, hb⟩
            exact ⟨_, he, hI.trans (hb.mono hI.size), PhiE.ext p' now T' sr' lr' tx S L hb, fun d hd => by cases hd; exact ⟨trivial, (fun _ => hr), fun h => absurd h (by decide)⟩⟩
          case o8 =>
            intro ev w8 hI hdep hfree
            have a6 : ev 6 = .pointer (some ⟨X, 0, none⟩) := hfree 6 (by kernel_rfl)
            have hg : ev 49 = .bool false := (hdep 5 49 (by kernel_rfl) (by kernel_rfl)).1
            refine ⟨fun _ => ?_, fun hno => absurd (show yieldedEv _ ev 5 = some false by simp only [yieldedEv, dstOf, hg]; simp [hg]) hno⟩
            clear hdep hfree
            have hbx := (HX7.out.ext hI).cell
            unfold boxV at hbx
            have y0 : w8.cell? ⟨X, 0, none⟩ = some (.int .i64 T'.now) := hbx 0
            have y1 : w8.cell? ⟨X, 1, none⟩ = some (.int .i64 T'.ls) := hbx 1
            have y2 : w8.cell? ⟨X, 2, none⟩ = some (.int .i64 T'.lf) := hbx 2
            have y3 : w8.cell? ⟨X, 3, none⟩ = some (sr') := hbx 3
            have y4 : w8.cell? ⟨X, 4, none⟩ = some (lr') := hbx 4
            clear hbx
            try dsimp only
            simp [OpRuns, execOp, evalOf, a6, y0, y1, y2, y3, y4, go_sem]
            first | exact ⟨hI, rfl, fun h => absurd h (by decide), fun h => absurd h (by decide)⟩ | exact ⟨hI, rfl⟩ | exact hI
          case o9 =>
            intro ev w8 hI hdep hfree
            have a52 : ev 52 = refV T' sr' lr' := (hdep 8 52 (by kernel_rfl) (by kernel_rfl)).1
            have hg : ev 49 = .bool false := (hdep 5 49 (by kernel_rfl) (by kernel_rfl)).1
            refine ⟨fun _ => ?_, fun hno => absurd (show yieldedEv _ ev 5 = some false by simp only [yieldedEv, dstOf, hg]; simp [hg]) hno⟩
            clear hdep hfree
            try dsimp only
            refine runs_call (f := 14) (args := #[refV T' sr' lr']) (by simp [execOp, evalOf, resolve, invoke, a52, go_sem]) ((HS2.out w8 hI).mono ?_)
            rintro e w9 ⟨⟨v, he, hr⟩, hb⟩
            exact ⟨_, he, hI.trans (hb.mono hI.size), PhiE.ext p' now T' sr' lr' tx S L hb, fun d hd => by cases hd; exact ⟨trivial, (fun _ => hr), fun h => absurd h (by decide)⟩⟩
          case o10 =>
            intro ev w8 hI hdep hfree
            obtain ⟨R51, r51, a51, hr51⟩ := (hdep 7 51 (by kernel_rfl) (by kernel_rfl)).2.1 (by decide)
            obtain ⟨R53, r53, a53, hr53⟩ := (hdep 9 53 (by kernel_rfl) (by kernel_rfl)).2.1 (by decide)
            have hg : ev 49 = .bool false := (hdep 5 49 (by kernel_rfl) (by kernel_rfl)).1
            refine ⟨fun _ => ?_, fun hno => absurd (show yieldedEv _ ev 5 = some false by simp only [yieldedEv, dstOf, hg]; simp [hg]) hno⟩
            clear hdep hfree
            try dsimp only
            refine runs_call (f := 12) (args := #[.slice R51 S.length r51, .slice R53 S.length r53]) (by simp [execOp, evalOf, resolve, invoke, a51, a53, go_sem]) ((numbers_same R51 R53 r51 r53 S w8 hr51 hr53 HSL.out).mono ?_)
            rintro e w9 ⟨he, hb⟩
            exact ⟨_, he, hI.trans (hb.mono hI.size), PhiE.ext p' now T' sr' lr' tx S L hb, fun d hd => by cases hd; exact ⟨rfl, fun h => absurd h (by decide), fun h => absurd h (by decide)⟩⟩
          case o11 =>
            intro ev w8 hI hdep hfree
            have a54 : ev 54 = .bool true := (hdep 10 54 (by kernel_rfl) (by kernel_rfl)).1
            have hg : ev 49 = .bool false := (hdep 5 49 (by kernel_rfl) (by kernel_rfl)).1
            refine ⟨fun _ => ?_, fun hno => absurd (show yieldedEv _ ev 5 = some false by simp only [yieldedEv, dstOf, hg]; simp [hg]) hno⟩
            clear hdep hfree
            try dsimp only
            simp [OpRuns, execOp, evalOf, a54, go_sem]
            first | exact ⟨hI, rfl, fun h => absurd h (by decide), fun h => absurd h (by decide)⟩ | exact ⟨hI, rfl⟩ | exact hI
          case o12 =>
            intro ev w8 hI hdep hfree
            have a49 : ev 49 = .bool false := (hdep 5 49 (by kernel_rfl) (by kernel_rfl)).1
            have a55 : ev 55 = .bool false := (hdep 11 55 (by kernel_rfl) (by kernel_rfl)).1
            clear hdep hfree
            try dsimp only
            simp [OpRuns, execOp, evalOf, a49, a55, go_sem]
            first | exact ⟨hI, rfl, fun h => absurd h (by decide), fun h => absurd h (by decide)⟩ | exact ⟨hI, rfl⟩ | exact hI
          case o13 =>
            intro ev w8 hI hdep hfree
            have a56 : ev 56 = .bool false := (hdep 12 56 (by kernel_rfl) (by kernel_rfl)).1
            clear hdep hfree
            try dsimp only
            simp [OpRuns, execOp, evalOf, a56, go_sem]
            first | exact ⟨hI, rfl, fun h => absurd h (by decide), fun h => absurd h (by decide)⟩ | exact ⟨hI, rfl⟩ | exact hI
          case o14 =>
            intro ev w8 hI hdep hfree
            have a5 : ev 5 = .pointer (some ⟨p', 0, none⟩) := hfree 5 (by kernel_rfl)
            have hg : ev 57 = .bool false := (hdep 13 57 (by kernel_rfl) (by kernel_rfl)).1
            refine ⟨fun _ => ?_, fun hno => absurd (show yieldedEv _ ev 13 = some false by simp only [yieldedEv, dstOf, hg]; simp [hg]) hno⟩
            clear hdep hfree
            try dsimp only
            simp [OpRuns, execOp, evalOf, a5, go_sem]
            first | exact ⟨hI, rfl, fun h => absurd h (by decide), fun h => absurd h (by decide)⟩ | exact ⟨hI, rfl⟩ | exact hI
          case o15 =>
            intro ev w8 hI hdep hfree
            have a1 : ev 1 = .int .i64 now := hfree 1 (by kernel_rfl)
            have hg : ev 57 = .bool false := (hdep 13 57 (by kernel_rfl) (by kernel_rfl)).1
            refine ⟨fun _ => ?_, fun hno => absurd (show yieldedEv _ ev 13 = some false by simp only [yieldedEv, dstOf, hg]; simp [hg]) hno⟩
            clear hdep hfree
            try dsimp only
            simp [OpRuns, execOp, evalOf, a1, go_sem]
            first | exact ⟨hI, rfl, fun h => absurd h (by decide), fun h => absurd h (by decide)⟩ | exact ⟨hI, rfl⟩ | exact hI
          case o16 =>
            intro ev w8 hI hdep hfree
            have a58 : ev 58 = .pointer (some ⟨p', 0, none⟩) := (hdep 14 58 (by kernel_rfl) (by kernel_rfl)).1
            have a59 : ev 59 = .int .i64 now := (hdep 15 59 (by kernel_rfl) (by kernel_rfl)).1
            have hg : ev 57 = .bool false := (hdep 13 57 (by kernel_rfl) (by kernel_rfl)).1
            refine ⟨fun _ => ?_, fun hno => absurd (show yieldedEv _ ev 13 = some false by simp only [yieldedEv, dstOf, hg]; simp [hg]) hno⟩
            clear hdep hfree
            try dsimp only
            refine runs_call (f := 16) (args := #[.pointer (some ⟨p', 0, none⟩), .int .i64 now]) (by simp [execOp, evalOf, resolve, invoke, a58, a59, go_sem]) ((HL1.out w8 hI).mono ?_)
            rintro e w9 ⟨⟨v, he, hr⟩, hb⟩
            exact ⟨_, he, hI.trans (hb.mono hI.size), PhiE.ext p' now T' sr' lr' tx S L hb, fun d hd => by cases hd; exact ⟨trivial, (fun h => absurd h (by decide)), fun _ => hr⟩⟩
          case o17 =>
            intro ev w8 hI hdep hfree
            have a6 : ev 6 = .pointer (some ⟨X, 0, none⟩) := hfree 6 (by kernel_rfl)
            have hg : ev 57 = .bool false := (hdep 13 57 (by kernel_rfl) (by kernel_rfl)).1
            refine ⟨fun _ => ?_, fun hno => absurd (show yieldedEv _ ev 13 = some false by simp only [yieldedEv, dstOf, hg]; simp [hg]) hno⟩
            clear hdep hfree
            have hbx := (HX7.out.ext hI).cell
            unfold boxV at hbx
            have y0 : w8.cell? ⟨X, 0, none⟩ = some (.int .i64 T'.now) := hbx 0
            have y1 : w8.cell? ⟨X, 1, none⟩ = some (.int .i64 T'.ls) := hbx 1
            have y2 : w8.cell? ⟨X, 2, none⟩ = some (.int .i64 T'.lf) := hbx 2
            have y3 : w8.cell? ⟨X, 3, none⟩ = some (sr') := hbx 3
            have y4 : w8.cell? ⟨X, 4, none⟩ = some (lr') := hbx 4
            clear hbx
            try dsimp only
            simp [OpRuns, execOp, evalOf, a6, y0, y1, y2, y3, y4, go_sem]
            first | exact ⟨hI, rfl, fun h => absurd h (by decide), fun h => absurd h (by decide)⟩ | exact ⟨hI, rfl⟩ | exact hI
          case o18 =>
            intro ev w8 hI hdep hfree
            have a1 : ev 1 = .int .i64 now := hfree 1 (by kernel_rfl)
            have hg : ev 57 = .bool false := (hdep 13 57 (by kernel_rfl) (by kernel_rfl)).1
            refine ⟨fun _ => ?_, fun hno => absurd (show yieldedEv _ ev 13 = some false by simp only [yieldedEv, dstOf, hg]; simp [hg]) hno⟩
            clear hdep hfree
            try dsimp only
            simp [OpRuns, execOp, evalOf, a1, go_sem]
            first | exact ⟨hI, rfl, fun h => absurd h (by decide), fun h => absurd h (by decide)⟩ | exact ⟨hI, rfl⟩ | exact hI
          case o19 =>
            intro ev w8 hI hdep hfree
            have a61 : ev 61 = refV T' sr' lr' := (hdep 17 61 (by kernel_rfl) (by kernel_rfl)).1
            have a62 : ev 62 = .int .i64 now := (hdep 18 62 (by kernel_rfl) (by kernel_rfl)).1
            have hg : ev 57 = .bool false := (hdep 13 57 (by kernel_rfl) (by kernel_rfl)).1
            refine ⟨fun _ => ?_, fun hno => absurd (show yieldedEv _ ev 13 = some false by simp only [yieldedEv, dstOf, hg]; simp [hg]) hno⟩
            clear hdep hfree
            try dsimp only
            refine runs_call (f := 17) (args := #[refV T' sr' lr', .int .i64 now]) (by simp [execOp, evalOf, resolve, invoke, a61, a62, go_sem]) ((HL2.out w8 hI).mono ?_)
            rintro e w9 ⟨⟨v, he, hr⟩, hb⟩
            exact ⟨_, he, hI.trans (hb.mono hI.size), PhiE.ext p' now T' sr' lr' tx S L hb, fun d hd => by cases hd; exact ⟨trivial, (fun h => absurd h (by decide)), fun _ => hr⟩⟩
          case o20 =>
            intro ev w8 hI hdep hfree
            obtain ⟨R60, r60, a60, hr60⟩ := (hdep 16 60 (by kernel_rfl) (by kernel_rfl)).2.2 (by decide)
            obtain ⟨R63, r63, a63, hr63⟩ := (hdep 19 63 (by kernel_rfl) (by kernel_rfl)).2.2 (by decide)
            have hg : ev 57 = .bool false := (hdep 13 57 (by kernel_rfl) (by kernel_rfl)).1
            refine ⟨fun _ => ?_, fun hno => absurd (show yieldedEv _ ev 13 = some false by simp only [yieldedEv, dstOf, hg]; simp [hg]) hno⟩
            clear hdep hfree
            try dsimp only
            refine runs_call (f := 15) (args := #[.slice R60 L.length r60, .slice R63 L.length r63]) (by simp [execOp, evalOf, resolve, invoke, a60, a63, go_sem]) ((leases_same R60 R63 r60 r63 L w8 hr60 hr63 HLL.out).mono ?_)
            rintro e w9 ⟨he, hb⟩
            exact ⟨_, he, hI.trans (hb.mono hI.size), PhiE.ext p' now T' sr' lr' tx S L hb, fun d hd => by cases hd; exact ⟨rfl, fun h => absurd h (by decide), fun h => absurd h (by decide)⟩⟩
          case o21 =>
            intro ev w8 hI hdep hfree
            have a64 : ev 64 = .bool true := (hdep 20 64 (by kernel_rfl) (by kernel_rfl)).1
            have hg : ev 57 = .bool false := (hdep 13 57 (by kernel_rfl) (by kernel_rfl)).1
            refine ⟨fun _ => ?_, fun hno => absurd (show yieldedEv _ ev 13 = some false by simp only [yieldedEv, dstOf, hg]; simp [hg]) hno⟩
            clear hdep hfree
            try dsimp only
            simp [OpRuns, execOp, evalOf, a64, go_sem]
            first | exact ⟨hI, rfl, fun h => absurd h (by decide), fun h => absurd h (by decide)⟩ | exact ⟨hI, rfl⟩ | exact hI
          case o22 =>
            intro ev w8 hI hdep hfree
            have a57 : ev 57 = .bool false := (hdep 13 57 (by kernel_rfl) (by kernel_rfl)).1
            have a65 : ev 65 = .bool false := (hdep 21 65 (by kernel_rfl) (by kernel_rfl)).1
            clear hdep hfree
            try dsimp only
            simp [OpRuns, execOp, evalOf, a57, a65, go_sem]
            first | exact ⟨hI, rfl, fun h => absurd h (by decide), fun h => absurd h (by decide)⟩ | exact ⟨hI, rfl⟩ | exact hI
        case hend =>
          intro a w8 hdf hsz hI hPhi hkept
          replace hdf : a.defers = [] := hdf
          replace hsz : a.tmps.size = 97 := hsz
          have x66 : a.tmps.getD 66 undef = .bool false := (hPhi 22 66 (by kernel_rfl)).1
          have x0 : a.tmps.getD 0 undef = Value.slice (some { block := b, off := o }) n c := hkept 0 (kept_all (by kernel_rfl))
          have x1 : a.tmps.getD 1 undef = Value.int IntKind.i64 now := hkept 1 (kept_all (by kernel_rfl))
          have x2 : a.tmps.getD 2 undef = undef := hkept 2 (kept_all (by kernel_rfl))
          have x3 : a.tmps.getD 3 undef = undef := hkept 3 (kept_all (by kernel_rfl))
          have x5 : a.tmps.getD 5 undef = Value.pointer (some { block := p', off := 0 }) := hkept 5 (kept_all (by kernel_rfl))
          have x6 : a.tmps.getD 6 undef = Value.pointer (some { block := X, off := 0 }) := hkept 6 (kept_all (by kernel_rfl))
          have x7 : a.tmps.getD 7 undef = Value.int IntKind.i64 (↑k : Int) := hkept 7 (kept_all (by kernel_rfl))
          have x8 : a.tmps.getD 8 undef = Value.pointer (some { block := p', off := 0 }) := hkept 8 (kept_all (by kernel_rfl))
          have x9 : a.tmps.getD 9 undef = Value.pointer (some { block := Y, off := 0 }) := hkept 9 (kept_all (by kernel_rfl))
          have x10 : a.tmps.getD 10 undef = Value.bool true := hkept 10 (kept_all (by kernel_rfl))
          have x15 : a.tmps.getD 15 undef = Value.bool true := hkept 15 (kept_all (by kernel_rfl))
          have x16 : a.tmps.getD 16 undef = Value.bool false := hkept 16 (kept_all (by kernel_rfl))
          have x17 : a.tmps.getD 17 undef = Value.pointer (some { block := p0, off := 0 }) := hkept 17 (kept_all (by kernel_rfl))
          have x18 : a.tmps.getD 18 undef = Value.agg #[Value.int IntKind.i64 0, Value.int IntKind.i64 0, Value.int IntKind.i64 0, Value.slice none 0 0, Value.slice none 0 0] := hkept 18 (kept_all (by kernel_rfl))
          have x19 : a.tmps.getD 19 undef = Value.int IntKind.i64 (↑k : Int) := hkept 19 (kept_all (by kernel_rfl))
          have x20 : a.tmps.getD 20 undef = Value.slice (some { block := b, off := o }) n c := hkept 20 (kept_all (by kernel_rfl))
          have x21 : a.tmps.getD 21 undef = Value.int IntKind.i64 (↑n : Int) := hkept 21 (kept_all (by kernel_rfl))
          have x22 : a.tmps.getD 22 undef = Value.bool true := hkept 22 (kept_all (by kernel_rfl))
          have x23 : a.tmps.getD 23 undef = Value.bool true := hkept 23 (kept_all (by kernel_rfl))
          have x24 : a.tmps.getD 24 undef = Value.int IntKind.i64 (↑k : Int) := hkept 24 (kept_all (by kernel_rfl))
          have x25 : a.tmps.getD 25 undef = Value.bool true := hkept 25 (kept_all (by kernel_rfl))
          have x26 : a.tmps.getD 26 undef = Value.bool true := hkept 26 (kept_all (by kernel_rfl))
          have x29 : a.tmps.getD 29 undef = Value.tuple #[Value.pointer (some { block := p', off := 0 }), refV T' sr' lr', Value.bool true] := hkept 29 (kept_all (by kernel_rfl))
          have x30 : a.tmps.getD 30 undef = Value.pointer (some { block := p, off := 0 }) := hkept 30 (kept_all (by kernel_rfl))
          have x31 : a.tmps.getD 31 undef = refV T sr lr := hkept 31 (kept_all (by kernel_rfl))
          have x32 : a.tmps.getD 32 undef = Value.slice (some { block := b, off := o }) n c := hkept 32 (kept_all (by kernel_rfl))
          have x33 : a.tmps.getD 33 undef = Value.int IntKind.i64 (↑k : Int) := hkept 33 (kept_all (by kernel_rfl))
          have x34 : a.tmps.getD 34 undef = Value.pointer (some { block := b, off := o + k * 6 }) := hkept 34 (kept_all (by kernel_rfl))
          have x35 : a.tmps.getD 35 undef = Value.agg #[Value.int IntKind.u8 x.k, Value.bool x.r, Value.int IntKind.i64 x.l, Value.int IntKind.i64 x.u, Value.int IntKind.i64 x.f, Value.string x.s] := hkept 35 (kept_all (by kernel_rfl))
          have x36 : a.tmps.getD 36 undef = Value.tuple #[Value.pointer (some { block := p', off := 0 }), refV T' sr' lr', Value.bool true] := hkept 36 (kept_all (by kernel_rfl))
          have x37 : a.tmps.getD 37 undef = Value.pointer (some { block := p', off := 0 }) := hkept 37 (kept_all (by kernel_rfl))
          have x38 : a.tmps.getD 38 undef = refV T' sr' lr' := hkept 38 (kept_all (by kernel_rfl))
          have x39 : a.tmps.getD 39 undef = Value.bool true := hkept 39 (kept_all (by kernel_rfl))
          have x40 : a.tmps.getD 40 undef = Value.bool true := hkept 40 (kept_all (by kernel_rfl))
          have x41 : a.tmps.getD 41 undef = Value.bool false := hkept 41 (kept_all (by kernel_rfl))
          have x42 : a.tmps.getD 42 undef = Value.pointer (some { block := p', off := 0 }) := hkept 42 (kept_all (by kernel_rfl))
          have x43 : a.tmps.getD 43 undef = Value.agg #[Value.int IntKind.i64 T'.now, Value.int IntKind.i64 T'.ls, Value.int IntKind.i64 T'.lf, sr', lr'] := hkept 43 (kept_all (by kernel_rfl))
          have ea := act_lit hsz hdf
          simp only [getDs] at ea
          rw [x66, x0, x1, x2, x3, x5, x6, x7, x8, x9, x10, x15, x16, x17, x18, x19, x20, x21, x22, x23, x24, x25, x26, x29, x30, x31, x32, x33, x34, x35, x36, x37, x38, x39, x40, x41, x42, x43] at ea
          rw [ea]
          clear ea x66 x0 x1 x2 x3 x5 x6 x7 x8 x9 x10 x15 x16 x17 x18 x19 x20 x21 x22 x23 x24 x25 x26 x29 x30 x31 x32 x33 x34 x35 x36 x37 x38 x39 x40 x41 x42 x43 hPhi hkept hdf hsz
          generalize a.tmps.getD 4 undef = u4
          generalize a.tmps.getD 11 undef = u11
          generalize a.tmps.getD 12 undef = u12
          generalize a.tmps.getD 13 undef = u13
          generalize a.tmps.getD 14 undef = u14
          generalize a.tmps.getD 27 undef = u27
          generalize a.tmps.getD 28 undef = u28
          generalize a.tmps.getD 44 undef = u44
          generalize a.tmps.getD 45 undef = u45
          generalize a.tmps.getD 46 undef = u46
          generalize a.tmps.getD 47 undef = u47
          generalize a.tmps.getD 48 undef = u48
          generalize a.tmps.getD 49 undef = u49
          generalize a.tmps.getD 50 undef = u50
          generalize a.tmps.getD 51 undef = u51
          generalize a.tmps.getD 52 undef = u52
          generalize a.tmps.getD 53 undef = u53
          generalize a.tmps.getD 54 undef = u54
          generalize a.tmps.getD 55 undef = u55
          generalize a.tmps.getD 56 undef = u56
          generalize a.tmps.getD 57 undef = u57
          generalize a.tmps.getD 58 undef = u58
          generalize a.tmps.getD 59 undef = u59
          generalize a.tmps.getD 60 undef = u60
          generalize a.tmps.getD 61 undef = u61
          generalize a.tmps.getD 62 undef = u62
          generalize a.tmps.getD 63 undef = u63
          generalize a.tmps.getD 64 undef = u64
          generalize a.tmps.getD 65 undef = u65
          generalize a.tmps.getD 67 undef = u67
          generalize a.tmps.getD 68 undef = u68
          generalize a.tmps.getD 69 undef = u69
          generalize a.tmps.getD 70 undef = u70
          generalize a.tmps.getD 71 undef = u71
          generalize a.tmps.getD 72 undef = u72
          generalize a.tmps.getD 73 undef = u73
          generalize a.tmps.getD 74 undef = u74
          generalize a.tmps.getD 75 undef = u75
          generalize a.tmps.getD 76 undef = u76
          generalize a.tmps.getD 77 undef = u77
          generalize a.tmps.getD 78 undef = u78
          generalize a.tmps.getD 79 undef = u79
          generalize a.tmps.getD 80 undef = u80
          generalize a.tmps.getD 81 undef = u81
          generalize a.tmps.getD 82 undef = u82
          generalize a.tmps.getD 83 undef = u83
          generalize a.tmps.getD 84 undef = u84
          generalize a.tmps.getD 85 undef = u85
          generalize a.tmps.getD 86 undef = u86
          generalize a.tmps.getD 87 undef = u87
          generalize a.tmps.getD 88 undef = u88
          generalize a.tmps.getD 89 undef = u89
          generalize a.tmps.getD 90 undef = u90
          generalize a.tmps.getD 91 undef = u91
          generalize a.tmps.getD 92 undef = u92
          generalize a.tmps.getD 93 undef = u93
          generalize a.tmps.getD 94 undef = u94
          generalize a.tmps.getD 95 undef = u95
          generalize a.tmps.getD 96 undef = u96
          clear a
          obtain ⟨r, hr⟩ : ∃ r, r = x.s.data.toList := ⟨_, rfl⟩
          have HC5 : Hid (∀ W, Below w7.heap.size w7 W → W.cell? ⟨b, o + k * 6 + 5, none⟩ = some (.string (sB r))) := Lib.hid fun W h => by
            rw [hr, sB_of]
            exact (acts_cells HC.out hb (HB7.out.trans (h.mono hD7))).2.2.2.2.2
          have HB8 := Lib.hid hI
          have y5 := HC5.out w8 hI
          clear hr hI HT1 HT2 HS1 HS2 HL1 HL2 HSL HLL
          go_wp2_with fail
          refine (holder_any B p' sv lv T' now r w8 (HREP.out.ext HB8.out) HINV.out.snd.asc2 hl2).mono ?_
          rintro e w9 ⟨rfl, hb9⟩
          have HB9 := Lib.hid (HB8.out.trans (hb9.mono HB8.out.size))
          have HHR := Lib.hid (show ∀ W, Below w7.heap.size w7 W → Calls Tryz.prog 19 #[refV T' sr' lr', .int .i64 now, .string (sB r)] W (HoldP (holdV T' now r) W) from fun W h => holdr_any T' sr' lr' now r W (HREF.out.ext h).ref HINV.out.snd.asc2 hl2)
          generalize holdV T' now r = hv at *
          obtain ⟨⟨hr', hs', hf', hu'⟩, hb'⟩ := hv
          clear y5 hb9
          unfold lsA
          go_wp2_with fail
          generalize hw10 : World.alloc w9 _ = w10
          obtain ⟨Z, hZ⟩ : ∃ Z, Z = w9.heap.size := ⟨_, rfl⟩
          have HZ := Lib.hid (show Held w10 Z (lsV ⟨hr', hs', hf', hu'⟩) by subst hw10; exact Held.new hZ)
          have HB10 := Lib.hid (show Below w7.heap.size w7 w10 by subst hw10; exact HB9.out.trans ((below_one _ _).mono HB9.out.size))
          rw [← hZ]
          have hXw : X < w10.heap.size := by have := HB10.out.size; omega
          clear hw10 hZ
          refine wp_region_told 13 (by kernel_rfl) (JH w10 [.string (sB hr'), .int .i64 hs', .int .i64 hf', .int .i64 hu']) (fun sl v _ => PhiH b o k n c now T' sr' lr' r hr' hs' hf' hu' hb' sl v) 97 rfl (by kernel_rfl) (by kernel_rfl) (by kernel_rfl) (by kernel_rfl) (by kernel_rfl) JH.start ?hops ?hend
          case hops =>
            refine ⟨?o0, ?o1, ?o2, ?o3, ?o4, ?o5, ?o6, ?o7, ?o8, ?o9, ?o10, ?o11, ?o12, trivial⟩
            case o0 =>
              intro ev w8 li hJ hsz hun hcl hli hdep hfree
              have a6 : ev 6 = .pointer (some ⟨X, 0, none⟩) := hfree 6 (by kernel_rfl)
              have hbx := (HX7.out.ext (HB10.out.trans (hJ.1.mono HB10.out.size))).cell
              unfold boxV at hbx
              have y0 : w8.cell? ⟨X, 0, none⟩ = some (.int .i64 T'.now) := hbx 0
              have y1 : w8.cell? ⟨X, 1, none⟩ = some (.int .i64 T'.ls) := hbx 1
              have y2 : w8.cell? ⟨X, 2, none⟩ = some (.int .i64 T'.lf) := hbx 2
              have y3 : w8.cell? ⟨X, 3, none⟩ = some (sr') := hbx 3
              have y4 : w8.cell? ⟨X, 4, none⟩ = some (lr') := hbx 4
              clear hbx
              clear hdep hfree hcl hli
              try dsimp only
              simp [OpRuns, execOp, evalOf, a6, y0, y1, y2, y3, y4, go_sem]
              exact ⟨hJ.pure (by omega) (by omega) (Below.refl _ _), rfl⟩
            case o1 =>
              intro ev w8 li hJ hsz hun hcl hli hdep hfree
              have a1 : ev 1 = .int .i64 now := hfree 1 (by kernel_rfl)
              clear hdep hfree hcl hli
              try dsimp only
              simp [OpRuns, execOp, evalOf, a1, go_sem]
              exact ⟨hJ.pure (by omega) (by omega) (Below.refl _ _), rfl⟩
            case o2 =>
              intro ev w8 li hJ hsz hun hcl hli hdep hfree
              have a0 : ev 0 = .slice (some ⟨b, o, none⟩) n c := hfree 0 (by kernel_rfl)
              clear hdep hfree hcl hli
              try dsimp only
              simp [OpRuns, execOp, evalOf, a0, go_sem]
              exact ⟨hJ.pure (by omega) (by omega) (Below.refl _ _), rfl⟩
            case o3 =>
              intro ev w8 li hJ hsz hun hcl hli hdep hfree
              have a7 : ev 7 = .int .i64 (k : Int) := hfree 7 (by kernel_rfl)
              clear hdep hfree hcl hli
              try dsimp only
              simp [OpRuns, execOp, evalOf, a7, go_sem]
              exact ⟨hJ.pure (by omega) (by omega) (Below.refl _ _), rfl⟩
            case o4 =>
              intro ev w8 li hJ hsz hun hcl hli hdep hfree
              have a81 : ev 81 = .slice (some ⟨b, o, none⟩) n c := hdep 2 81 (by kernel_rfl) (by kernel_rfl)
              have a82 : ev 82 = .int .i64 (k : Int) := hdep 3 82 (by kernel_rfl) (by kernel_rfl)
              clear hdep hfree hcl hli
              try dsimp only
              simp [OpRuns, execOp, evalOf, a81, a82, hkn', go_sem]
              exact ⟨hJ.pure (by omega) (by omega) (Below.refl _ _), rfl⟩
            case o5 =>
              intro ev w8 li hJ hsz hun hcl hli hdep hfree
              have a83 : ev 83 = .pointer (some ⟨b, o + k * 6, none⟩) := hdep 4 83 (by kernel_rfl) (by kernel_rfl)
              clear hdep hfree hcl hli
              try dsimp only
              simp [OpRuns, execOp, evalOf, a83, go_sem]
              exact ⟨hJ.pure (by omega) (by omega) (Below.refl _ _), rfl⟩
            case o6 =>
              intro ev w8 li hJ hsz hun hcl hli hdep hfree
              have a84 : ev 84 = .pointer (some ⟨b, o + k * 6 + 5, none⟩) := hdep 5 84 (by kernel_rfl) (by kernel_rfl)
              have y5 := HC5.out w8 (HB10.out.trans (hJ.1.mono HB10.out.size))
              clear hdep hfree hcl hli
              try dsimp only
              simp [OpRuns, execOp, evalOf, a84, y5, go_sem]
              exact ⟨hJ.pure (by omega) (by omega) (Below.refl _ _), rfl⟩
            case o7 =>
              intro ev w8 li hJ hsz hun hcl hli hdep hfree
              have a79 : ev 79 = refV T' sr' lr' := hdep 0 79 (by kernel_rfl) (by kernel_rfl)
              have a80 : ev 80 = .int .i64 now := hdep 1 80 (by kernel_rfl) (by kernel_rfl)
              have a85 : ev 85 = .string (sB r) := hdep 6 85 (by kernel_rfl) (by kernel_rfl)
              clear hdep hfree hcl hli
              try dsimp only
              refine runs_call (f := 19) (args := #[refV T' sr' lr', .int .i64 now, .string (sB r)]) (by simp [execOp, evalOf, resolve, invoke, a79, a80, a85, go_sem]) ((HHR.out w8 (HB10.out.trans (hJ.1.mono HB10.out.size))).mono ?_)
              rintro e w9 ⟨he, hb9⟩
              exact ⟨_, he, hJ.pure (by omega) (by omega) hb9, fun j s u _ _ h => h, fun d hd => by cases hd; exact rfl⟩
            case o8 =>
              intro ev w8 li hJ hsz hun hcl hli hdep hfree
              have a86 : ev 86 = tHV hr' hs' hf' hu' hb' := hdep 7 86 (by kernel_rfl) (by kernel_rfl)
              unfold tHV at a86
              clear hdep hfree hcl hli
              try dsimp only
              simp [OpRuns, execOp, evalOf, a86, go_sem]
              exact ⟨hJ.pure (by omega) (by omega) (Below.refl _ _), rfl⟩
            case o9 =>
              intro ev w8 li hJ hsz hun hcl hli hdep hfree
              have a78 : ev 78 = tHV hr' hs' hf' hu' hb' := hdep 8 78 (by kernel_rfl) (by kernel_rfl)
              unfold tHV at a78
              clear hdep hfree hcl hli
              try dsimp only
              simp [OpRuns, execOp, evalOf, a78, go_sem]
              exact ⟨hJ.pure (by omega) (by omega) (Below.refl _ _), rfl⟩
            case o10 =>
              intro ev w8 li hJ hsz hun hcl hli hdep hfree
              have a78 : ev 78 = tHV hr' hs' hf' hu' hb' := hdep 8 78 (by kernel_rfl) (by kernel_rfl)
              unfold tHV at a78
              clear hdep hfree hcl hli
              try dsimp only
              simp [OpRuns, execOp, evalOf, a78, go_sem]
              exact ⟨hJ.pure (by omega) (by omega) (Below.refl _ _), rfl⟩
            case o11 =>
              intro ev w8 li hJ hsz hun hcl hli hdep hfree
              have hs : li.size = 14 := hsz.trans (by kernel_rfl)
              have n12 : li.getD 12 false = false := Bool.eq_false_iff.2 fun h => by rw [hcl 12 11 h (by kernel_rfl)] at hun; cases hun
              clear hdep hfree hcl hli
              have hJ' := fun (t : TypeId) => JH.al (t := t) hJ (by omega) n12
              try dsimp only
              simp [OpRuns, execOp, evalOf, go_sem]
              exact ⟨hJ' _, trivial⟩
            case o12 =>
              intro ev w8 li hJ hsz hun hcl hli hdep hfree
              have hs : li.size = 14 := hsz.trans (by kernel_rfl)
              have a87 : ev 87 = .agg #[.string (sB hr'), .int .i64 hs', .int .i64 hf', .int .i64 hu'] := hdep 9 87 (by kernel_rfl) (by kernel_rfl)
              obtain ⟨Y, a13, hH, hJ'⟩ := hJ.st (v := undef) (by omega) (hli 11 (by kernel_rfl)) hun
              have hc := hH.cell
              have hf := hH.free
              have y0 : w8.cell? ⟨Y, 0, none⟩ = some (.string ⟨#[]⟩) := hc 0
              have f0 : w8.frozen? ⟨Y, 0, none⟩ = false := hf 0
              have y1 : w8.cell? ⟨Y, 1, none⟩ = some (.int .i64 0) := hc 1
              have f1 : w8.frozen? ⟨Y, 1, none⟩ = false := hf 1
              have y2 : w8.cell? ⟨Y, 2, none⟩ = some (.int .i64 0) := hc 2
              have f2 : w8.frozen? ⟨Y, 2, none⟩ = false := hf 2
              have y3 : w8.cell? ⟨Y, 3, none⟩ = some (.int .i64 0) := hc 3
              have f3 : w8.frozen? ⟨Y, 3, none⟩ = false := hf 3
              clear hdep hfree hcl hli hc hf
              try dsimp only
              simp [OpRuns, execOp, evalOf, a13, a87, y0, y1, y2, y3, f0, f1, f2, f3, go_sem]
              exact hJ' _ rfl
          case hend =>
            intro li a w11 hall hdf hsz hJ hPhi hkept
            replace hdf : a.defers = [] := hdf
            replace hsz : a.tmps.size = 97 := hsz
            obtain ⟨Y2, x13, hY2, hb11⟩ := hJ.fin hall
            have x79 : a.tmps.getD 79 undef = refV T' sr' lr' := hPhi 0 79 (by omega) (by kernel_rfl)
            have x80 : a.tmps.getD 80 undef = .int .i64 now := hPhi 1 80 (by omega) (by kernel_rfl)
            have x81 : a.tmps.getD 81 undef = .slice (some ⟨b, o, none⟩) n c := hPhi 2 81 (by omega) (by kernel_rfl)
            have x82 : a.tmps.getD 82 undef = .int .i64 (k : Int) := hPhi 3 82 (by omega) (by kernel_rfl)
            have x83 : a.tmps.getD 83 undef = .pointer (some ⟨b, o + k * 6, none⟩) := hPhi 4 83 (by omega) (by kernel_rfl)
            have x84 : a.tmps.getD 84 undef = .pointer (some ⟨b, o + k * 6 + 5, none⟩) := hPhi 5 84 (by omega) (by kernel_rfl)
            have x85 : a.tmps.getD 85 undef = .string (sB r) := hPhi 6 85 (by omega) (by kernel_rfl)
            have x86 : a.tmps.getD 86 undef = tHV hr' hs' hf' hu' hb' := hPhi 7 86 (by omega) (by kernel_rfl)
            have x78 : a.tmps.getD 78 undef = tHV hr' hs' hf' hu' hb' := hPhi 8 78 (by omega) (by kernel_rfl)
            have x87 : a.tmps.getD 87 undef = .agg #[.string (sB hr'), .int .i64 hs', .int .i64 hf', .int .i64 hu'] := hPhi 9 87 (by omega) (by kernel_rfl)
            have x88 : a.tmps.getD 88 undef = .bool hb' := hPhi 10 88 (by omega) (by kernel_rfl)
            have x0 : a.tmps.getD 0 undef = Value.slice (some { block := b, off := o }) n c := hkept 0 (kept_front (by kernel_rfl))
            have x1 : a.tmps.getD 1 undef = Value.int IntKind.i64 now := hkept 1 (kept_front (by kernel_rfl))
            have x2 : a.tmps.getD 2 undef = undef := hkept 2 (kept_front (by kernel_rfl))
            have x3 : a.tmps.getD 3 undef = undef := hkept 3 (kept_front (by kernel_rfl))
            have x5 : a.tmps.getD 5 undef = Value.pointer (some { block := p', off := 0 }) := hkept 5 (kept_front (by kernel_rfl))
            have x6 : a.tmps.getD 6 undef = Value.pointer (some { block := X, off := 0 }) := hkept 6 (kept_front (by kernel_rfl))
            have x7 : a.tmps.getD 7 undef = Value.int IntKind.i64 (↑k : Int) := hkept 7 (kept_front (by kernel_rfl))
            have x8 : a.tmps.getD 8 undef = Value.pointer (some { block := p', off := 0 }) := hkept 8 (kept_front (by kernel_rfl))
            have x9 : a.tmps.getD 9 undef = Value.pointer (some { block := Y, off := 0 }) := hkept 9 (kept_front (by kernel_rfl))
            have x10 : a.tmps.getD 10 undef = Value.bool true := hkept 10 (kept_front (by kernel_rfl))
            have x11 : a.tmps.getD 11 undef = Value.pointer (some { block := Z, off := 0 }) := hkept 11 (kept_front (by kernel_rfl))
            have x12 : a.tmps.getD 12 undef = Value.bool hb' := hkept 12 (kept_front (by kernel_rfl))
            have x15 : a.tmps.getD 15 undef = Value.bool true := hkept 15 (kept_front (by kernel_rfl))
            have x16 : a.tmps.getD 16 undef = Value.bool false := hkept 16 (kept_front (by kernel_rfl))
            have x17 : a.tmps.getD 17 undef = Value.pointer (some { block := p0, off := 0 }) := hkept 17 (kept_front (by kernel_rfl))
            have x18 : a.tmps.getD 18 undef = Value.agg #[Value.int IntKind.i64 0, Value.int IntKind.i64 0, Value.int IntKind.i64 0, Value.slice none 0 0, Value.slice none 0 0] := hkept 18 (kept_front (by kernel_rfl))
            have x19 : a.tmps.getD 19 undef = Value.int IntKind.i64 (↑k : Int) := hkept 19 (kept_front (by kernel_rfl))
            have x20 : a.tmps.getD 20 undef = Value.slice (some { block := b, off := o }) n c := hkept 20 (kept_front (by kernel_rfl))
            have x21 : a.tmps.getD 21 undef = Value.int IntKind.i64 (↑n : Int) := hkept 21 (kept_front (by kernel_rfl))
            have x22 : a.tmps.getD 22 undef = Value.bool true := hkept 22 (kept_front (by kernel_rfl))
            have x23 : a.tmps.getD 23 undef = Value.bool true := hkept 23 (kept_front (by kernel_rfl))
            have x24 : a.tmps.getD 24 undef = Value.int IntKind.i64 (↑k : Int) := hkept 24 (kept_front (by kernel_rfl))
            have x25 : a.tmps.getD 25 undef = Value.bool true := hkept 25 (kept_front (by kernel_rfl))
            have x26 : a.tmps.getD 26 undef = Value.bool true := hkept 26 (kept_front (by kernel_rfl))
            have x29 : a.tmps.getD 29 undef = Value.tuple #[Value.pointer (some { block := p', off := 0 }), refV T' sr' lr', Value.bool true] := hkept 29 (kept_front (by kernel_rfl))
            have x30 : a.tmps.getD 30 undef = Value.pointer (some { block := p, off := 0 }) := hkept 30 (kept_front (by kernel_rfl))
            have x31 : a.tmps.getD 31 undef = refV T sr lr := hkept 31 (kept_front (by kernel_rfl))
            have x32 : a.tmps.getD 32 undef = Value.slice (some { block := b, off := o }) n c := hkept 32 (kept_front (by kernel_rfl))
            have x33 : a.tmps.getD 33 undef = Value.int IntKind.i64 (↑k : Int) := hkept 33 (kept_front (by kernel_rfl))
            have x34 : a.tmps.getD 34 undef = Value.pointer (some { block := b, off := o + k * 6 }) := hkept 34 (kept_front (by kernel_rfl))
            have x35 : a.tmps.getD 35 undef = Value.agg #[Value.int IntKind.u8 x.k, Value.bool x.r, Value.int IntKind.i64 x.l, Value.int IntKind.i64 x.u, Value.int IntKind.i64 x.f, Value.string x.s] := hkept 35 (kept_front (by kernel_rfl))
            have x36 : a.tmps.getD 36 undef = Value.tuple #[Value.pointer (some { block := p', off := 0 }), refV T' sr' lr', Value.bool true] := hkept 36 (kept_front (by kernel_rfl))
            have x37 : a.tmps.getD 37 undef = Value.pointer (some { block := p', off := 0 }) := hkept 37 (kept_front (by kernel_rfl))
            have x38 : a.tmps.getD 38 undef = refV T' sr' lr' := hkept 38 (kept_front (by kernel_rfl))
            have x39 : a.tmps.getD 39 undef = Value.bool true := hkept 39 (kept_front (by kernel_rfl))
            have x40 : a.tmps.getD 40 undef = Value.bool true := hkept 40 (kept_front (by kernel_rfl))
            have x41 : a.tmps.getD 41 undef = Value.bool false := hkept 41 (kept_front (by kernel_rfl))
            have x42 : a.tmps.getD 42 undef = Value.pointer (some { block := p', off := 0 }) := hkept 42 (kept_front (by kernel_rfl))
            have x43 : a.tmps.getD 43 undef = Value.agg #[Value.int IntKind.i64 T'.now, Value.int IntKind.i64 T'.ls, Value.int IntKind.i64 T'.lf, sr', lr'] := hkept 43 (kept_front (by kernel_rfl))
            have x66 : a.tmps.getD 66 undef = Value.bool false := hkept 66 (kept_front (by kernel_rfl))
            have x67 : a.tmps.getD 67 undef = Value.tuple #[Value.agg #[Value.string (sB hr'), Value.int IntKind.i64 hs', Value.int IntKind.i64 hf', Value.int IntKind.i64 hu'], Value.bool hb'] := hkept 67 (kept_front (by kernel_rfl))
            have x68 : a.tmps.getD 68 undef = Value.pointer (some { block := p', off := 0 }) := hkept 68 (kept_front (by kernel_rfl))
            have x69 : a.tmps.getD 69 undef = Value.int IntKind.i64 now := hkept 69 (kept_front (by kernel_rfl))
            have x70 : a.tmps.getD 70 undef = Value.slice (some { block := b, off := o }) n c := hkept 70 (kept_front (by kernel_rfl))
            have x71 : a.tmps.getD 71 undef = Value.int IntKind.i64 (↑k : Int) := hkept 71 (kept_front (by kernel_rfl))
            have x72 : a.tmps.getD 72 undef = Value.pointer (some { block := b, off := o + k * 6 }) := hkept 72 (kept_front (by kernel_rfl))
            have x73 : a.tmps.getD 73 undef = Value.pointer (some { block := b, off := o + k * 6 + 5 }) := hkept 73 (kept_front (by kernel_rfl))
            have x74 : a.tmps.getD 74 undef = Value.string (sB r) := hkept 74 (kept_front (by kernel_rfl))
            have x75 : a.tmps.getD 75 undef = Value.tuple #[Value.agg #[Value.string (sB hr'), Value.int IntKind.i64 hs', Value.int IntKind.i64 hf', Value.int IntKind.i64 hu'], Value.bool hb'] := hkept 75 (kept_front (by kernel_rfl))
            have x76 : a.tmps.getD 76 undef = Value.agg #[Value.string (sB hr'), Value.int IntKind.i64 hs', Value.int IntKind.i64 hf', Value.int IntKind.i64 hu'] := hkept 76 (kept_front (by kernel_rfl))
            have x77 : a.tmps.getD 77 undef = Value.bool hb' := hkept 77 (kept_front (by kernel_rfl))
            have ea := act_lit hsz hdf
            simp only [getDs] at ea
            rw [x13, x79, x80, x81, x82, x83, x84, x85, x86, x78, x87, x88, x0, x1, x2, x3, x5, x6, x7, x8, x9, x10, x11, x12, x15, x16, x17, x18, x19, x20, x21, x22, x23, x24, x25, x26, x29, x30, x31, x32, x33, x34, x35, x36, x37, x38, x39, x40, x41, x42, x43, x66, x67, x68, x69, x70, x71, x72, x73, x74, x75, x76, x77] at ea
            rw [ea]
            clear ea x13 x79 x80 x81 x82 x83 x84 x85 x86 x78 x87 x88 x0 x1 x2 x3 x5 x6 x7 x8 x9 x10 x11 x12 x15 x16 x17 x18 x19 x20 x21 x22 x23 x24 x25 x26 x29 x30 x31 x32 x33 x34 x35 x36 x37 x38 x39 x40 x41 x42 x43 x66 x67 x68 x69 x70 x71 x72 x73 x74 x75 x76 x77 hPhi hkept hdf hsz hJ hall
            generalize a.tmps.getD 4 undef = v4
            generalize a.tmps.getD 14 undef = v14
            generalize a.tmps.getD 27 undef = v27
            generalize a.tmps.getD 28 undef = v28
            generalize a.tmps.getD 44 undef = v44
            generalize a.tmps.getD 45 undef = v45
            generalize a.tmps.getD 46 undef = v46
            generalize a.tmps.getD 47 undef = v47
            generalize a.tmps.getD 48 undef = v48
            generalize a.tmps.getD 49 undef = v49
            generalize a.tmps.getD 50 undef = v50
            generalize a.tmps.getD 51 undef = v51
            generalize a.tmps.getD 52 undef = v52
            generalize a.tmps.getD 53 undef = v53
            generalize a.tmps.getD 54 undef = v54
            generalize a.tmps.getD 55 undef = v55
            generalize a.tmps.getD 56 undef = v56
            generalize a.tmps.getD 57 undef = v57
            generalize a.tmps.getD 58 undef = v58
            generalize a.tmps.getD 59 undef = v59
            generalize a.tmps.getD 60 undef = v60
            generalize a.tmps.getD 61 undef = v61
            generalize a.tmps.getD 62 undef = v62
            generalize a.tmps.getD 63 undef = v63
            generalize a.tmps.getD 64 undef = v64
            generalize a.tmps.getD 65 undef = v65
            generalize a.tmps.getD 89 undef = v89
            generalize a.tmps.getD 90 undef = v90
            generalize a.tmps.getD 91 undef = v91
            generalize a.tmps.getD 92 undef = v92
            generalize a.tmps.getD 93 undef = v93
            generalize a.tmps.getD 94 undef = v94
            generalize a.tmps.getD 95 undef = v95
            generalize a.tmps.getD 96 undef = v96
            clear a
            have HB11 := Lib.hid (HB10.out.trans (hb11.mono HB10.out.size))
            have HY2 := Lib.hid hY2
            have HZ2 := Lib.hid (HZ.out.ext hb11)
            have qz := HZ2.out.cell
            have qy2 := hY2.cell
            unfold lsV at qz
            dsimp only at qz
            clear hb11 hY2 HZ hXw
            go_wp2_with fail
            go_roundw
            case rel => exact ⟨k + 1, T', p', sr', lr', by omega, by omega, rfl, by go_num, Lib.hid ⟨HP7.out.grow HB11.out (fun b hb => .inl hb), HX7.out.ext HB11.out, HB7.out.trans (HB11.out.mono hD7)⟩⟩
            case measure => simp [intOf]; omega
    · have G := Lib.hid RR.out.bel
      by_cases h1 : k < n
      · obtain rfl : k = 24 := by omega
        have h1i : ((24 : Nat) : Int) < (n : Int) := by omega
        have h1j : (24 : Int) < (n : Int) := by omega
        clear hlt
        go_wp2_with fail
        go_ret
        exact ⟨rfl, G.out⟩
      · have h1i : ¬ ((k : Int) < (n : Int)) := by omega
        clear hlt
        go_wp2_with fail
        go_ret
        exact ⟨rfl, G.out⟩
end Go.Proofs.YtneiljaknmeagaaGreatDoor
