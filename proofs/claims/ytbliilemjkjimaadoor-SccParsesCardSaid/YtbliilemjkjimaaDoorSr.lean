/-
  What was printed is read back: in plain words.
-/
import Derived.Test.YtbliilemjkjimaaDoorSq
namespace Go.Proofs.YtbliilemjkjimaaDoor
set_option linter.unusedSimpArgs false
set_option linter.unusedVariables false
theorem hx_dig {n : Nat} (h : n < 16) : hv (hx n) = some n ∧ hx n ≠ 10 := by
  have : ∀ n : Fin 16, hv (hx n.val) = some n.val ∧ hx n.val ≠ 10 := by decide
  exact this ⟨n, h⟩
theorem bv_hex (b : UInt8) : ∃ x y, hex2 b = [x, y] ∧ bv x y = some b ∧ x ≠ 10 ∧ y ≠ 10 := by
  have hb : b.toNat < 256 := b.toNat_lt
  have h1 := hx_dig (n := b.toNat / 16) (by omega)
  have h2 := hx_dig (n := b.toNat % 16) (by omega)
  refine ⟨_, _, rfl, ?_, h1.2, h2.2⟩
  rw [bv, h1.1, h2.1]
  show some (UInt8.ofNat (16 * (b.toNat / 16) + b.toNat % 16)) = some b
  rw [Nat.div_add_mod]
  simp
def prsT (l : List Pr) : List UInt8 := l.flatMap pr1
theorem prL_text : ∀ (l : List Pr) (i : Nat), prL i (prsT l) = .ok l
  | [], i => rfl
  | p :: r, i => by
    obtain ⟨a, b, e1, v1, -⟩ := bv_hex p.1
    obtain ⟨c, d, e2, v2, -⟩ := bv_hex p.2
    have e : prsT (p :: r) = 32 :: a :: b :: c :: d :: prsT r := by simp [prsT, pr1, e1, e2]
    rw [e, prL, if_pos rfl]
    simp only [v1, v2]
    rw [prL_text r]
    rfl
theorem prV_text {l : List Pr} (h : l ≠ []) : prV (prsT l) = .ok l := by
  cases l with
  | nil => exact absurd rfl h
  | cons p r => rw [prV, if_neg (by simp [prsT, pr1]), prL_text]
theorem prsT_no (l : List Pr) : (10 : UInt8) ∉ prsT l := by
  intro h
  obtain ⟨p, -, hp⟩ := List.mem_flatMap.1 h
  obtain ⟨a, b, e1, -, n1, n2⟩ := bv_hex p.1
  obtain ⟨c, d, e2, -, n3, n4⟩ := bv_hex p.2
  simp [pr1, e1, e2] at hp
  rcases hp with h | h | h | h
  · exact n1 h.symm
  · exact n2 h.symm
  · exact n3 h.symm
  · exact n4 h.symm
theorem two2_no {n : Int} (h1 : 0 ≤ n) (h2 : n < 100) : (10 : UInt8) ∉ two2 n ∧ (two2 n).length = 2 := by
  refine ⟨fun h => ?_, rfl⟩
  have e1 := dig_byte (k := (n / 10).toNat) (by omega)
  have e2 := dig_byte (k := (n % 10).toNat) (by omega)
  simp only [two2, List.mem_cons, List.not_mem_nil, or_false] at h
  rcases h with h | h
  · rw [← h] at e1; simp at e1; omega
  · rw [← h] at e2; simp at e2; omega
theorem txtL_no {l : Lab} (h : chkL l = 0) : (10 : UInt8) ∉ txtL l ∧ (txtL l).length = 11 := by
  obtain ⟨h1, h2, h3, h4, h5, h6, h7, h8⟩ := chkL_zero h
  have a := two2_no h1 (by omega : l.h < 100)
  have b := two2_no h3 (by omega : l.m < 100)
  have c := two2_no h5 (by omega : l.s < 100)
  have d := two2_no h7 (by omega : l.f < 100)
  refine ⟨?_, by simp [txtL, a.2, b.2, c.2, d.2]⟩
  simp only [txtL, List.mem_append, not_or]
  refine ⟨⟨⟨⟨⟨⟨a.1, by decide⟩, b.1⟩, by decide⟩, c.1⟩, ?_⟩, d.1⟩
  cases l.d <;> decide
theorem labV_ok {d : Bool} {f : Int} (h1 : 0 ≤ f) (h2 : f < dayV d) : chkL (labV d f) = 0 ∧ frmV (labV d f) = f := by
  cases d
  · exact labV_plain h1 (by simpa [dayV, drp] using h2)
  · exact labV_drop h1 (by simpa [dayV, drp] using h2)
/-- A line of a run: read behind what was read before. -/
theorem line_run {d : Bool} {F : Int} {A cur : List Pr} {r : Rd} (hF : 0 ≤ F) (hd : F + A.length + cur.length - 1 < dayV d) (hc : cur ≠ []) (hn : A.length + cur.length ≤ 200000)
    (hr : r.ps = trim A) (hb : (r.begun = true ∧ r.drop = d ∧ r.first = F) ∨ (r.begun = false ∧ A = [])) :
    lineV r (labT d F A.length ++ prsT cur) = .ok ⟨true, d, F, A ++ cur⟩ := by
  have hcl : 0 < cur.length := List.length_pos_iff.2 hc
  obtain ⟨l1, l2⟩ := labV_ok (d := d) (f := F + A.length) (by omega) (by omega)
  obtain ⟨t1, t2⟩ := txtL_no l1
  have e1 : (labT d F A.length ++ prsT cur).take 11 = txtL (labV d (F + A.length)) := by rw [labT, ← t2, List.take_left]
  have e2 : (labT d F A.length ++ prsT cur).drop 11 = prsT cur := by rw [labT, ← t2, List.drop_left]
  have e3 : (labV d (F + A.length)).d = d := rfl
  obtain ⟨n1, n2⟩ := trim_nuls A
  have eg : (if r.begun = true then r.first else frmV (labV d (F + A.length))) = F := by
    rcases hb with ⟨b1, -, b3⟩ | ⟨b1, b2⟩
    · rw [if_pos b1, b3]
    · rw [if_neg (by rw [b1]; decide), l2, b2]; simp
  rw [lineV, if_neg (by rw [labT, List.length_append, t2]; omega), e1, e2, labR_txt l1, prV_text hc]
  simp only [e3, l2]
  rw [l2] at eg
  rw [if_neg (by rintro ⟨x, y⟩; rcases hb with ⟨-, b2, -⟩ | ⟨b1, -⟩; exact y b2.symm; rw [b1] at x; cases x), eg, hr, if_neg (by omega), if_neg (by omega)]
  have : (F + (A.length : Int) - F - ((trim A).length : Int)).toNat = A.length - (trim A).length := by omega
  rw [this, ← n1]
def pre (u : List UInt8) : List (List UInt8) → List (List UInt8)
  | [] => [u]
  | h :: t => (u ++ h) :: t
theorem pre_pre (u v : List UInt8) (x : List (List UInt8)) : pre u (pre v x) = pre (u ++ v) x := by cases x <;> simp [pre]
theorem words_pre {c : UInt8} : ∀ {u : List UInt8} (s : List UInt8), c ∉ u → wordsC c (u ++ s) = pre u (wordsC c s)
  | [], s, _ => by
    rw [List.nil_append]
    cases h : wordsC c s with
    | nil =>
      exfalso
      cases s with
      | nil => cases h
      | cons b r =>
        rw [wordsC] at h
        split at h
        · cases h
        · cases h2 : wordsC c r <;> rw [h2] at h <;> cases h
    | cons a t => rfl
  | b :: u, s, h => by
    have hb : b ≠ c := fun e => h (by rw [e]; exact List.mem_cons_self)
    have hu : c ∉ u := fun e => h (List.mem_cons_of_mem _ e)
    rw [List.cons_append, wordsC, if_neg hb, words_pre s hu]
    cases wordsC c s <;> rfl
theorem words_cut (c : UInt8) (s : List UInt8) : wordsC c (c :: s) = [] :: wordsC c s := by rw [wordsC, if_pos rfl]
def outT (d : Bool) (F : Int) (w : Bool) (i : Int) (l : List Pr) : List UInt8 := outP (labT d F) w i l ++ [10]
theorem outT_null {d : Bool} {F : Int} {w : Bool} {i : Int} {p : Pr} {l : List Pr} (h : isN p = true) : outT d F w i (p :: l) = outT d F false (i + 1) l := by
  rw [outT, outP, if_pos h]; rfl
theorem outT_on {d : Bool} {F : Int} {i : Int} {p : Pr} {l : List Pr} (h : isN p = false) : outT d F true i (p :: l) = pr1 p ++ outT d F true (i + 1) l := by
  rw [outT, outP, if_neg (by simp [h]), if_pos rfl]; simp [outT]
theorem outT_off {d : Bool} {F : Int} {i : Int} {p : Pr} {l : List Pr} (h : isN p = false) : outT d F false i (p :: l) = 10 :: (labT d F i ++ (pr1 p ++ outT d F true (i + 1) l)) := by
  rw [outT, outP, if_neg (by simp [h]), if_neg (by simp)]; simp [outT]
theorem outT_words {d : Bool} {F : Int} : ∀ (l : List Pr) (i : Int), ∃ t, wordsC 10 (outT d F false i l) = [] :: t
  | [], i => ⟨_, words_cut 10 []⟩
  | p :: l, i => by
    by_cases h : isN p = true
    · rw [outT_null h]; exact outT_words l _
    · rw [outT_off (by simpa using h)]; exact ⟨_, words_cut 10 _⟩
theorem linesV_nil (n : Int) (r : Rd) (t : List (List UInt8)) : linesV n r ([] :: t) = linesV (n + 1) r t := by rw [linesV, if_pos rfl]
theorem linesV_ok {n : Int} {r r' : Rd} {s : List UInt8} {t : List (List UInt8)} (h1 : s ≠ []) (h2 : lineV r s = .ok r') : linesV n r (s :: t) = linesV (n + 1) r' t := by
  rw [linesV, if_neg h1, h2]
theorem prsT_app (a b : List Pr) : prsT (a ++ b) = prsT a ++ prsT b := by simp [prsT]
theorem prsT_one (p : Pr) : prsT [p] = pr1 p := by simp [prsT]
def Bnd (d : Bool) (F : Int) (n : Nat) : Prop := (F + n - 1 < dayV d ∨ n = 0) ∧ n ≤ 200000
theorem Bnd.cast {d : Bool} {F : Int} {n m : Nat} (h : Bnd d F n) (e : n = m) : Bnd d F m := e ▸ h
theorem Bnd.day {d : Bool} {F : Int} {n : Nat} (h : Bnd d F n) (h0 : 0 < n) : F + n - 1 < dayV d := by
  rcases h.1 with h | h
  · exact h
  · omega
theorem fold_run {d : Bool} {F : Int} (hF : 0 ≤ F) : ∀ (l : List Pr),
    (∀ (A : List Pr) (r : Rd) (n : Int), Bnd d F (A.length + l.length) → r.ps = trim A →
      ((r.begun = true ∧ r.drop = d ∧ r.first = F) ∨ (r.begun = false ∧ A = [] ∧ (∀ p t, l = p :: t → isN p = false))) →
      ∃ r', linesV n r (wordsC 10 (outT d F false A.length l)) = .ok r' ∧ r'.ps = trim (A ++ l) ∧ (r'.first = F ∨ A ++ l = [])) ∧
    (∀ (A cur : List Pr) (r : Rd) (n : Int), Bnd d F (A.length + cur.length + l.length) → r.ps = trim A → cur ≠ [] → trim (A ++ cur) = A ++ cur →
      ((r.begun = true ∧ r.drop = d ∧ r.first = F) ∨ (r.begun = false ∧ A = [])) →
      ∃ r', linesV n r (pre (labT d F A.length ++ prsT cur) (wordsC 10 (outT d F true ((A.length : Int) + cur.length) l))) = .ok r' ∧ r'.ps = trim (A ++ cur ++ l) ∧ r'.first = F) := by
  have ne : ∀ (A cur : List Pr), cur ≠ [] → labT d F A.length ++ prsT cur ≠ [] := fun A cur h e => by
    cases cur with
    | nil => exact h rfl
    | cons p t => simp [prsT, pr1] at e
  intro l
  induction l with
  | nil =>
    refine ⟨fun A r n hB hr hb => ⟨r, ?_, by rw [List.append_nil]; exact hr, ?_⟩, fun A cur r n hB hr hc ht hb => ⟨⟨true, d, F, A ++ cur⟩, ?_, by rw [List.append_nil]; exact ht.symm, rfl⟩⟩
    · rw [show wordsC 10 (outT d F false (↑A.length) []) = [[], []] from rfl, linesV_nil, linesV_nil]; rfl
    · rcases hb with ⟨-, -, h⟩ | ⟨-, h, -⟩
      · exact .inl h
      · exact .inr (by rw [h]; rfl)
    · rw [show wordsC 10 (outT d F true (↑A.length + ↑cur.length) []) = [[], []] from rfl]
      simp only [pre, List.append_nil]
      have hcl : 0 < cur.length := List.length_pos_iff.2 hc
      rw [linesV_ok (ne A cur hc) (line_run hF (by have h := hB.day (by simp; omega); simp only [List.length_nil, List.length_cons] at h; omega) hc (by have := hB.2; simp at this; omega) hr hb), linesV_nil]; rfl
  | cons p l ih =>
    obtain ⟨ihF, ihT⟩ := ih
    refine ⟨fun A r n hB hr hb => ?_, fun A cur r n hB hr hc ht hb => ?_⟩
    · by_cases h : isN p = true
      · have hb' : r.begun = true ∧ r.drop = d ∧ r.first = F := by
          rcases hb with hb | ⟨-, -, hb⟩
          · exact hb
          · rw [hb p l rfl] at h; cases h
        have := ihF (A ++ [p]) r n (hB.cast (by simp; omega)) (by rw [isN_eq.1 h]; exact hr.trans (trim_app_nuls A 1).symm) (.inl hb')
        rw [outT_null h]
        simpa using this
      · have h : isN p = false := by simpa using h
        rw [outT_off h, words_cut, linesV_nil, words_pre _ (by
          have hlab : chkL (labV d (F + A.length)) = 0 := (labV_ok (by omega) (by have h := hB.day (by simp; omega); simp only [List.length_nil, List.length_cons] at h; omega)).1
          exact (txtL_no hlab).1), words_pre _ (by rw [← prsT_one]; exact prsT_no _), pre_pre, ← prsT_one]
        obtain ⟨r', e1, e2, e3⟩ := ihT A [p] r (n + 1) (hB.cast (by simp; omega)) hr (by simp) (trim_last h A) (by
          rcases hb with hb | ⟨b1, b2, -⟩
          · exact .inl hb
          · exact .inr ⟨b1, b2⟩)
        exact ⟨r', by simpa using e1, by simpa using e2, .inl e3⟩
    · by_cases h : isN p = true
      · rw [outT_null h]
        obtain ⟨t, et⟩ := outT_words (d := d) (F := F) l (↑A.length + ↑cur.length + 1)
        have hcl : 0 < cur.length := List.length_pos_iff.2 hc
        obtain ⟨r', e1, e2, e3⟩ := ihF (A ++ cur ++ [p]) ⟨true, d, F, A ++ cur⟩ n (hB.cast (by simp; omega)) (by
          rw [isN_eq.1 h]
          exact ht.symm.trans (trim_app_nuls _ 1).symm) (.inl ⟨rfl, rfl, rfl⟩)
        have el : (((A ++ cur ++ [p]).length : Nat) : Int) = ↑A.length + ↑cur.length + 1 := by simp; omega
        rw [el, et, linesV_nil] at e1
        rw [et]
        simp only [pre, List.append_nil]
        rw [linesV_ok (ne A cur hc) (line_run hF (by have h := hB.day (by simp; omega); simp only [List.length_nil, List.length_cons] at h; omega) hc (by have := hB.2; simp at this; omega) hr hb)]
        exact ⟨r', e1, by simpa using e2, by simpa using e3⟩
      · have h : isN p = false := by simpa using h
        rw [outT_on h, words_pre _ (by rw [← prsT_one]; exact prsT_no _), pre_pre, ← prsT_one, List.append_assoc, ← prsT_app]
        obtain ⟨r', e1, e2, e3⟩ := ihT A (cur ++ [p]) r n (hB.cast (by simp; omega)) hr (by simp) (by rw [← List.append_assoc]; exact trim_last h _) hb
        refine ⟨r', ?_, by simpa using e2, e3⟩
        rw [← e1]
        simp [Int.add_assoc]
/-- What was printed is read back. -/
theorem read_back {f : Int} {l : List Pr} {d : Bool} (hf : 0 ≤ f) (hm : mid l = l) (h0 : l = [] → f = 0) (hl : ¬ late f l d) (hn : l.length ≤ 200000) : parseV (textP f l d) = .ok (f, l) := by
  obtain ⟨t, et⟩ := outT_words (d := d) (F := f) l 0
  have hb : Bnd d f (0 + l.length) := by
    refine ⟨?_, by omega⟩
    by_cases h : l = []
    · exact .inr (by rw [h]; rfl)
    · refine .inl ?_
      have : ¬ (dayV d ≤ f + l.length - 1) := fun h2 => hl ⟨h, h2⟩
      simp only [Nat.zero_add]
      omega
  obtain ⟨r', e1, e2, e3⟩ := (fold_run (d := d) hf l).1 [] rd0 1 hb rfl (.inr ⟨rfl, rfl, fun p t e => mid_head (l := l) (by rw [hm, e])⟩)
  rw [show (([] : List Pr).length : Int) = 0 from rfl, et, linesV_nil] at e1
  have ew : wordsC 10 (textP f l d) = headL :: t := by
    show wordsC 10 (headL ++ outT d f false 0 l) = _
    rw [words_pre _ (by decide), et]; simp [pre]
  rw [parseV, ew, parseW, if_neg (by simp), show (2 : Int) = 1 + 1 from rfl, e1]
  simp only [Except.map, List.nil_append] at *
  have ht : trim l = l := by
    have := trim_trim (l.dropWhile isN)
    rw [← mid, hm] at this
    exact this
  rw [e2, ht, normV, hm]
  have hl0 : lead l = 0 := by rw [← hm]; exact lead_mid l
  split
  · rename_i h; rw [h0 h, h]
  · rename_i h
    rw [hl0]
    rcases e3 with e3 | e3
    · rw [e3]; simp
    · exact absurd e3 h
end Go.Proofs.YtbliilemjkjimaaDoor
