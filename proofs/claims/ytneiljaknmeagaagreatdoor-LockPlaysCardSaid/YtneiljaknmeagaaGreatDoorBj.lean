/-
  The text of a table, read back. The conditions of the contracts are their hypotheses.
-/
import Derived.Test.YtneiljaknmeagaaGreatDoorPa
namespace Go.Proofs.YtneiljaknmeagaaGreatDoor
open Go.RowKit Go.Joins
set_option linter.unusedVariables false
set_option linter.unusedSimpArgs false
theorem less_cmp : ∀ a b : List UInt8, Go.Op.bytesLess a b = decide (cmpB a b < 0)
  | [], [] => rfl
  | _ :: _, [] => rfl
  | [], _ :: _ => rfl
  | x :: r, y :: t => by
    show (decide (x < y) || (x == y && Go.Op.bytesLess r t)) = decide ((if x < y then (-1 : Int) else if y < x then 1 else cmpB r t) < 0)
    rw [less_cmp r t]
    by_cases h : x < y
    · simp [h]
    · by_cases h2 : y < x
      · have hne : (x == y) = false := by
          rw [beq_eq_false_iff_ne]
          intro e
          rw [e] at h2
          exact UInt8.lt_irrefl y h2
        simp [h, h2, hne]
      · have e : x = y := UInt8.le_antisymm (UInt8.not_lt.1 h2) (UInt8.not_lt.1 h)
        subst e
        simp [h]
/-- a comes no later than b: what the model's '<=' reckons. -/
theorem leq_cmp (a b : List UInt8) : (Go.Op.bytesLess a b || a == b) = decide (cmpB a b ≤ 0) := by
  rw [less_cmp]
  by_cases h : cmpB a b < 0
  · simp [h]; omega
  · by_cases h2 : a = b
    · subst h2
      simp [cmp_self]
    · have h3 : cmpB a b ≠ 0 := fun e => h2 (cmp_zero e)
      have e1 : (a == b) = false := by rw [beq_eq_false_iff_ne]; exact h2
      simp [h, e1]
      omega
theorem cmp_flip {a b : List UInt8} : cmpB a b ≤ 0 ↔ ¬ cmpB b a < 0 := by
  rw [cmp_anti a b]
  omega
/-- The numbers of a table that was read. -/
def InR (T : Tb) : Prop := (0 ≤ T.now ∧ T.now ≤ mRf) ∧ (0 ≤ T.ls ∧ T.ls ≤ mRf) ∧ (0 ≤ T.lf ∧ T.lf ≤ mRf) ∧ (∀ n ∈ T.ses, 0 ≤ n ∧ n ≤ mRf) ∧ ∀ x ∈ T.lea, (0 ≤ x.ses ∧ x.ses ≤ mRf) ∧ (0 ≤ x.fen ∧ x.fen ≤ mRf) ∧ (0 ≤ x.unt ∧ x.unt ≤ mRf)
theorem inR_zero : InR tb0 := ⟨by decide, by decide, by decide, fun n hn => (by cases hn), fun x hx => (by cases hx)⟩
theorem inR_step {i : Nat} {W : List (List UInt8)} {T T' : Tb} (hT : InR T) (h : stepR i W T = some T') : InR T' := by
  obtain ⟨g1, g2, g3, g4, g5⟩ := hT
  unfold stepR at h
  split at h
  · split at h
    · rename_i a b c hn
      have e := Option.some.inj h
      subst e
      obtain ⟨_, k2⟩ := numsP_some hn
      exact ⟨k2 a (by simp), k2 b (by simp), k2 c (by simp), g4, g5⟩
    · cases h
  · split at h
    · split at h
      · rename_i n hn
        have e := Option.some.inj h
        subst e
        obtain ⟨_, k2⟩ := numsP_some hn
        refine ⟨g1, g2, g3, fun k hk => ?_, g5⟩
        rcases List.mem_append.1 hk with hk | hk
        · exact g4 k hk
        · rw [List.mem_singleton.1 hk]; exact k2 n (by simp)
      · cases h
    · split at h
      · split at h
        · rename_i a b c hn
          have e := Option.some.inj h
          subst e
          obtain ⟨_, k2⟩ := numsP_some hn
          refine ⟨g1, g2, g3, g4, fun x hx => ?_⟩
          rcases List.mem_append.1 hx with hx | hx
          · exact g5 x hx
          · rw [List.mem_singleton.1 hx]
            exact ⟨k2 a (by simp), k2 b (by simp), k2 c (by simp)⟩
        · cases h
      · cases h
theorem asc_adj : ∀ {L : List Int} {k : Nat} {m n : Int}, AscI L → L[k]? = some m → L[k + 1]? = some n → m < n
  | [], _, _, _, _, h, _ => by cases h
  | a :: L, 0, m, n, h, h1, h2 => by
    have e : a = m := Option.some.inj h1
    subst e
    exact h.1 n (List.mem_of_getElem? (by simpa using h2))
  | a :: L, k + 1, m, n, h, h1, h2 => asc_adj (L := L) (k := k) h.2 (by simpa using h1) (by simpa using h2)
theorem ascR_adj : ∀ {L : List Ls} {k : Nat} {m n : Ls}, AscR L → L[k]? = some m → L[k + 1]? = some n → cmpB m.reel n.reel < 0
  | [], _, _, _, _, h, _ => by cases h
  | a :: L, 0, m, n, h, h1, h2 => by
    have e : a = m := Option.some.inj h1
    subst e
    exact h.1 n (List.mem_of_getElem? (by simpa using h2))
  | a :: L, k + 1, m, n, h, h1, h2 => ascR_adj (L := L) (k := k) h.2 (by simpa using h1) (by simpa using h2)
theorem take_snoc {α : Type} {L : List α} {k : Nat} {n : α} (h : L[k]? = some n) : L.take (k + 1) = L.take k ++ [n] := by
  rw [List.take_add_one, h]
  rfl
theorem last_take {α : Type} {L : List α} {k : Nat} {n : α} (hk : 0 < k) (h : L[k - 1]? = some n) : (L.take k).getLast? = some n := by
  rw [List.getLast?_take, if_neg (by omega), h]
  rfl
def SesTo (T : Tb) (k : Nat) : Prop := (∀ n ∈ T.ses.take k, 1 ≤ n ∧ n ≤ T.ls) ∧ AscI (T.ses.take k)
theorem SesTo.zero (T : Tb) : SesTo T 0 := ⟨fun n hn => by simp at hn, by simp [AscI]⟩
theorem SesTo.next {T : Tb} {k : Nat} {n : Int} (h : SesTo T k) (hk : T.ses[k]? = some n) (h1 : 1 ≤ n) (h2 : n ≤ T.ls) (h3 : ∀ m, 0 < k → T.ses[k - 1]? = some m → m < n) : SesTo T (k + 1) := by
  unfold SesTo
  rw [take_snoc hk]
  refine ⟨fun m hm => ?_, ascI_snoc.2 ⟨h.2, fun m hm => ?_⟩⟩
  · rcases List.mem_append.1 hm with hm | hm
    · exact h.1 m hm
    · rw [List.mem_singleton.1 hm]; exact ⟨h1, h2⟩
  · by_cases h0 : 0 < k
    · obtain ⟨z, hz⟩ : ∃ z, T.ses[k - 1]? = some z := by
        have := (List.getElem?_eq_some_iff.1 hk).1
        exact ⟨_, List.getElem?_eq_getElem (by omega)⟩
      have := last_max h.2 (last_take h0 hz) m hm
      have := h3 z h0 hz
      omega
    · have e : k = 0 := by omega
      subst e
      simp at hm
def LeaTo (T : Tb) (k : Nat) : Prop := (∀ x ∈ T.lea.take k, LsOk T x) ∧ AscR (T.lea.take k) ∧ (T.lea.take k).Pairwise fun x y => x.fen ≠ y.fen
theorem LeaTo.zero (T : Tb) : LeaTo T 0 := ⟨fun n hn => by simp at hn, by simp [AscR], by simp⟩
theorem LeaTo.next {T : Tb} {k : Nat} {x : Ls} (h : LeaTo T k) (hk : T.lea[k]? = some x) (h1 : LsOk T x) (h2 : ∀ y, 0 < k → T.lea[k - 1]? = some y → cmpB y.reel x.reel < 0) (h3 : ∀ y ∈ T.lea.take k, y.fen ≠ x.fen) : LeaTo T (k + 1) := by
  unfold LeaTo
  rw [take_snoc hk]
  refine ⟨fun m hm => ?_, ascR_snoc.2 ⟨h.2.1, fun m hm => ?_⟩, ?_⟩
  · rcases List.mem_append.1 hm with hm | hm
    · exact h.1 m hm
    · rw [List.mem_singleton.1 hm]; exact h1
  · by_cases h0 : 0 < k
    · obtain ⟨z, hz⟩ : ∃ z, T.lea[k - 1]? = some z := by
        have := (List.getElem?_eq_some_iff.1 hk).1
        exact ⟨_, List.getElem?_eq_getElem (by omega)⟩
      exact last_maxR h.2.1 (last_take h0 hz) (h2 z h0 hz) m hm
    · have e : k = 0 := by omega
      subst e
      simp at hm
  · refine List.pairwise_append.2 ⟨h.2.2, List.pairwise_singleton .., fun y hy z hz => ?_⟩
    rw [List.mem_singleton.1 hz]
    exact h3 y hy
theorem snd_of {T : Tb} (hn : InR T) (h1 : T.now ≤ mTk) (h2 : T.ls ≤ mId) (h3 : T.lf ≤ mId) (h4 : T.ses.length ≤ 8) (h5 : T.lea.length ≤ 16) (h6 : SesTo T T.ses.length) (h7 : LeaTo T T.lea.length) : Snd T := by
  unfold SesTo at h6
  unfold LeaTo at h7
  rw [List.take_length] at h6 h7
  exact ⟨⟨hn.1.1, h1⟩, ⟨hn.2.1.1, h2⟩, ⟨hn.2.2.1.1, h3⟩, h4, h5, h6.1, h6.2, h7.1, h7.2.1, h7.2.2⟩
theorem Snd.fen_at {T : Tb} (h : Snd T) {j k : Nat} {x y : Ls} (hjk : j < k) (hy : T.lea[j]? = some y) (hx : T.lea[k]? = some x) : y.fen ≠ x.fen := by
  obtain ⟨hi, rfl⟩ := List.getElem?_eq_some_iff.1 hy
  obtain ⟨hj, rfl⟩ := List.getElem?_eq_some_iff.1 hx
  exact List.pairwise_iff_getElem.1 h.fen j k hi hj hjk
/-- No table is read where the reference's table is not sound. -/
theorem ref_none {s : List UInt8} {T : Tb} (h : lnsR 0 (wordsC 10 s.dropLast) tb0 = some T) (hs : ¬ Snd T) : parT s = none := by
  cases hp : parT s with
  | none => rfl
  | some T' =>
    obtain ⟨_, h2, h3⟩ := ref_of hp
    rw [h] at h2
    exact absurd (Option.some.inj h2 ▸ h3) hs
theorem ref_none2 {s : List UInt8} (h : lnsR 0 (wordsC 10 s.dropLast) tb0 = none) : parT s = none := by
  cases hp : parT s with
  | none => rfl
  | some T' =>
    obtain ⟨_, h2, h3⟩ := ref_of hp
    rw [h] at h2
    cases h2
theorem ref_none3 {s : List UInt8} (h : s.getLast? ≠ some 10) : parT s = none := by
  unfold parT
  rw [if_neg h]
/-! numbers, one after another -/
theorem numsP_none {m : Int} : ∀ {U : List (List UInt8)} {u : List UInt8}, u ∈ U → numP m u = none → numsP m U = none
  | [], _, h, _ => by cases h
  | v :: r, u, h, hu => by
    unfold numsP
    rcases List.mem_cons.1 h with rfl | h
    · rw [hu]
    · cases hv : numP m v with
      | none => rfl
      | some n => simp only []; rw [numsP_none h hu]
theorem numsP_snoc {m : Int} : ∀ {U : List (List UInt8)} {u : List UInt8} {ns : List Int} {n : Int}, numsP m U = some ns → numP m u = some n → numsP m (U ++ [u]) = some (ns ++ [n])
  | [], u, ns, n, h, hu => by
    have e : [] = ns := Option.some.inj h
    subst e
    show (match numP m u with | some n => (match numsP m [] with | some ns => some (n :: ns) | none => none) | none => none) = _
    rw [hu]
    rfl
  | v :: r, u, ns, n, h, hu => by
    rw [List.cons_append]
    unfold numsP at h ⊢
    cases hv : numP m v with
    | none => rw [hv] at h; cases h
    | some k =>
      rw [hv] at h
      simp only [] at h ⊢
      cases hr : numsP m r with
      | none => rw [hr] at h; cases h
      | some ks =>
        rw [hr] at h
        have e : k :: ks = ns := Option.some.inj h
        subst e
        rw [numsP_snoc hr hu]
        rfl
/-! the lines of a text, and its last line -/
theorem words_end (c : UInt8) : ∀ M : List UInt8, wordsC c (M ++ [c]) = wordsC c M ++ [[]]
  | [] => by simp [wordsC]
  | b :: r => by
    have ih := words_end c r
    rw [List.cons_append, wordsC, wordsC]
    split
    · rw [ih]; rfl
    · rw [ih]
      cases h : wordsC c r with
      | nil => exact absurd h (wordsC_ne c r)
      | cons w ws => rfl
theorem words_last {c b : UInt8} (h : b ≠ c) : ∀ M : List UInt8, ∃ ds u, wordsC c (M ++ [b]) = ds ++ [u ++ [b]]
  | [] => ⟨[], [], by simp [wordsC, h, addW]⟩
  | x :: r => by
    obtain ⟨ds, u, e⟩ := words_last h r
    rw [List.cons_append, wordsC]
    split
    · exact ⟨[] :: ds, u, by rw [e]; rfl⟩
    · rw [e]
      cases ds with
      | nil => exact ⟨[], x :: u, rfl⟩
      | cons d ds => exact ⟨(x :: d) :: ds, u, rfl⟩
theorem rows_yes {s : List UInt8} (h : s.getLast? = some 10) : (wordsC 10 s).getLast? = some [] ∧ (wordsC 10 s).dropLast = wordsC 10 s.dropLast := by
  obtain ⟨M, rfl⟩ := List.getLast?_eq_some_iff.1 h
  rw [words_end, List.dropLast_concat, List.dropLast_concat]
  exact ⟨by simp, rfl⟩
theorem rows_no {s : List UInt8} (h : s.getLast? ≠ some 10) : (wordsC 10 s).getLast? ≠ some [] ∨ (wordsC 10 s).dropLast = [] := by
  rcases List.eq_nil_or_concat s with rfl | ⟨M, b, rfl⟩
  · right
    simp [wordsC]
  · left
    rw [List.concat_eq_append] at *
    have hb : b ≠ 10 := fun e => h (by rw [e]; simp)
    obtain ⟨ds, u, e⟩ := words_last hb M
    rw [e]
    simp
end Go.Proofs.YtneiljaknmeagaaGreatDoor
namespace Go.Proofs.YtneiljaknmeagaaGreatDoor
open Go.RowKit Go.Joins
set_option linter.unusedVariables false
set_option linter.unusedSimpArgs false
theorem words_joinc (c : UInt8) : ∀ (ws : List (List UInt8)), ws ≠ [] → (∀ w ∈ ws, c ∉ w) → wordsC c (Lib.join ws [c]) = ws
  | [], h, _ => absurd rfl h
  | [w], _, h => by rw [Lib.join_one]; exact wordsC_no (h w (by simp))
  | a :: b :: r, _, h => by
    have ih := words_joinc c (b :: r) (by simp) (fun w hw => h w (List.mem_cons_of_mem _ hw))
    rw [join_two, List.append_assoc, List.singleton_append, wordsC_cut (h a (by simp)), ih]
def lineL (w0 : List UInt8) (ns : List Int) : List UInt8 := w0 ++ numsT ns
def sesL (s : Int) : List UInt8 := lineL sessionW [s]
def leaL (x : Ls) : List UInt8 := lineL (leaseW ++ x.reel) [x.ses, x.fen, x.unt]
def tabL (T : Tb) : List (List UInt8) := lineL locksW [T.now, T.ls, T.lf] :: (T.ses.map sesL ++ T.lea.map leaL)
theorem text_tabL (T : Tb) : textT T = linesX (tabL T) := by
  have e1 : textS T.ses = linesX (T.ses.map sesL) := by
    unfold textS linesX
    rw [List.flatMap_map]
    rfl
  have e2 : textL T.lea = linesX (T.lea.map leaL) := by
    unfold textL linesX
    rw [List.flatMap_map]
    rfl
  unfold textT
  rw [e1, e2]
  unfold tabL
  show lineT locksW [T.now, T.ls, T.lf] ++ linesX (T.ses.map sesL) ++ linesX (T.lea.map leaL) = (lineL locksW [T.now, T.ls, T.lf] ++ [10]) ++ linesX (T.ses.map sesL ++ T.lea.map leaL)
  unfold linesX
  rw [List.flatMap_append, List.append_assoc]
  rfl
theorem nums_no {c : UInt8} (hc : c.toNat < 48 ∨ 57 < c.toNat) (h45 : c ≠ 45) (h32 : c ≠ 32) {ns : List Int} : c ∉ numsT ns := by
  unfold numsT
  intro hm
  obtain ⟨n, hn, hb⟩ := List.mem_flatMap.1 hm
  rcases List.mem_cons.1 hb with e | hb
  · exact h32 e
  · exact itoa_no hc h45 hb
theorem name_no10 {l : List UInt8} (h : nmB l = true) : ∀ b ∈ l, b ≠ 10 ∧ b ≠ 32 := by
  intro b hb
  unfold nmB at h
  simp only [Bool.and_eq_true, List.all_eq_true] at h
  have := (nmC_iff b).1 (h.2 b hb)
  constructor
  · intro e; subst e; revert this; decide
  · intro e; subst e; revert this; decide
theorem line_words {w0 : List UInt8} {ns : List Int} (h0 : (32 : UInt8) ∉ w0) : wordsC 32 (lineL w0 ns) = w0 :: ns.map Lib.itoa := by
  unfold lineL
  rw [← words_line]
  refine words_joinc 32 _ (by simp) (fun w hw => ?_)
  rcases List.mem_cons.1 hw with rfl | hw
  · exact h0
  · obtain ⟨n, hn, rfl⟩ := List.mem_map.1 hw
    exact itoa_no (by decide) (by decide)
theorem lea_words {x : Ls} (h0 : (32 : UInt8) ∉ x.reel) : wordsC 32 (leaL x) = [leaW, x.reel, Lib.itoa x.ses, Lib.itoa x.fen, Lib.itoa x.unt] := by
  have e : leaL x = Lib.join (leaW :: x.reel :: [x.ses, x.fen, x.unt].map Lib.itoa) [32] := by
    rw [join_two, words_line]
    unfold leaL lineL leaseW leaW
    simp
  rw [e]
  refine words_joinc 32 _ (by simp) (fun w hw => ?_)
  rcases List.mem_cons.1 hw with rfl | hw
  · decide
  · rcases List.mem_cons.1 hw with rfl | hw
    · exact h0
    · obtain ⟨n, hn, rfl⟩ := List.mem_map.1 hw
      exact itoa_no (by decide) (by decide)
theorem step_locks {a b c : Int} (h : ∀ n ∈ [a, b, c], 0 ≤ n ∧ n ≤ mRf) : stepR 0 (wordsC 32 (lineL locksW [a, b, c])) tb0 = some ⟨a, b, c, [], []⟩ := by
  rw [line_words (by decide)]
  unfold stepR
  rw [if_pos ⟨rfl, rfl, rfl⟩]
  have e : (locksW :: List.map Lib.itoa [a, b, c]).drop 1 = [a, b, c].map Lib.itoa := rfl
  rw [e, numsP_of h]
  rfl
theorem step_ses {i : Nat} {T : Tb} {n : Int} (hi : 0 < i) (h : 0 ≤ n ∧ n ≤ mRf) (hl : T.lea = []) : stepR i (wordsC 32 (sesL n)) T = some ⟨T.now, T.ls, T.lf, T.ses ++ [n], T.lea⟩ := by
  unfold sesL
  have h' : ∀ k ∈ [n], 0 ≤ k ∧ k ≤ mRf := fun k hk => by rw [List.mem_singleton.1 hk]; exact h
  rw [line_words (by decide)]
  unfold stepR
  rw [if_neg (by omega), if_pos ⟨hi, rfl, rfl, hl⟩]
  have e : (sessionW :: List.map Lib.itoa [n]).drop 1 = [n].map Lib.itoa := rfl
  rw [e, numsP_of h']
theorem step_lea {i : Nat} {T : Tb} {x : Ls} (hi : 0 < i) (h0 : (32 : UInt8) ∉ x.reel) (h : ∀ n ∈ [x.ses, x.fen, x.unt], 0 ≤ n ∧ n ≤ mRf) : stepR i (wordsC 32 (leaL x)) T = some ⟨T.now, T.ls, T.lf, T.ses, T.lea ++ [x]⟩ := by
  rw [lea_words h0]
  unfold stepR
  rw [if_neg (by omega), if_neg (by rintro ⟨_, h2, _⟩; revert h2; simp [leaW, sessionW]), if_pos ⟨hi, rfl, rfl⟩]
  have e : ([leaW, x.reel, Lib.itoa x.ses, Lib.itoa x.fen, Lib.itoa x.unt]).drop 2 = [x.ses, x.fen, x.unt].map Lib.itoa := rfl
  rw [e, numsP_of h]
  rfl
theorem lns_ses : ∀ {S : List Int} {i : Nat} {T : Tb} {R : List (List UInt8)}, 0 < i → (∀ n ∈ S, 0 ≤ n ∧ n ≤ mRf) → T.lea = [] → lnsR i (S.map sesL ++ R) T = lnsR (i + S.length) R ⟨T.now, T.ls, T.lf, T.ses ++ S, T.lea⟩
  | [], i, T, R, hi, h, hl => by simp
  | n :: S, i, T, R, hi, h, hl => by
    rw [List.map_cons, List.cons_append, lnsR, step_ses hi (h n (by simp)) hl]
    simp only []
    rw [lns_ses (S := S) (T := ⟨T.now, T.ls, T.lf, T.ses ++ [n], T.lea⟩) (show 0 < i + 1 by omega) (fun k hk => h k (List.mem_cons_of_mem _ hk)) hl]
    simp only [List.append_assoc, List.singleton_append, List.length_cons]
    rw [show i + 1 + S.length = i + (S.length + 1) by omega]
theorem lns_lea : ∀ {L : List Ls} {i : Nat} {T : Tb}, 0 < i → (∀ x ∈ L, (32 : UInt8) ∉ x.reel ∧ ∀ n ∈ [x.ses, x.fen, x.unt], 0 ≤ n ∧ n ≤ mRf) → lnsR i (L.map leaL) T = some ⟨T.now, T.ls, T.lf, T.ses, T.lea ++ L⟩
  | [], i, T, hi, h => by simp [lnsR]
  | x :: L, i, T, hi, h => by
    rw [List.map_cons, lnsR, step_lea hi (h x (by simp)).1 (h x (by simp)).2]
    simp only []
    rw [lns_lea (L := L) (T := ⟨T.now, T.ls, T.lf, T.ses, T.lea ++ [x]⟩) (show 0 < i + 1 by omega) (fun k hk => h k (List.mem_cons_of_mem _ hk))]
    simp
/-- The text of a sound table is read as the table. -/
theorem text_par {T : Tb} (h : Snd T) : parT (textT T) = some T := by
  have hn := h.now
  have hs := h.ls
  have hf := h.lf
  have hn2 : T.now ≤ 10378368000 := hn.2
  have hs2 : T.ls ≤ 1099511627776 := hs.2
  have hf2 : T.lf ≤ 1099511627776 := hf.2
  have bL : ∀ n ∈ [T.now, T.ls, T.lf], 0 ≤ n ∧ n ≤ mRf := by
    intro n hn
    show 0 ≤ n ∧ n ≤ 1109889995776
    simp only [List.mem_cons, List.not_mem_nil, or_false] at hn
    rcases hn with rfl | rfl | rfl <;> omega
  have bS : ∀ n ∈ T.ses, 0 ≤ n ∧ n ≤ mRf := by
    intro n hn
    show 0 ≤ n ∧ n ≤ 1109889995776
    have := h.ses n hn
    omega
  have bX : ∀ x ∈ T.lea, (32 : UInt8) ∉ x.reel ∧ ∀ n ∈ [x.ses, x.fen, x.unt], 0 ≤ n ∧ n ≤ mRf := by
    intro x hx
    obtain ⟨g1, g2, g3, g4, g5, g6⟩ := h.lea x hx
    have g2' := h.ses _ g2
    refine ⟨fun hb => (name_no10 g1 _ hb).2 rfl, fun n hn => ?_⟩
    show 0 ≤ n ∧ n ≤ 1109889995776
    simp only [List.mem_cons, List.not_mem_nil, or_false] at hn
    rcases hn with rfl | rfl | rfl <;> omega
  have hno : ∀ l ∈ tabL T, (10 : UInt8) ∉ l := by
    intro l hl
    unfold tabL at hl
    rcases List.mem_cons.1 hl with rfl | hl
    · unfold lineL
      intro hm
      rcases List.mem_append.1 hm with hm | hm
      · revert hm; decide
      · exact nums_no (by decide) (by decide) (by decide) hm
    · rcases List.mem_append.1 hl with hl | hl
      · obtain ⟨n, hn, rfl⟩ := List.mem_map.1 hl
        unfold sesL lineL
        intro hm
        rcases List.mem_append.1 hm with hm | hm
        · revert hm; decide
        · exact nums_no (by decide) (by decide) (by decide) hm
      · obtain ⟨x, hx, rfl⟩ := List.mem_map.1 hl
        unfold leaL lineL
        intro hm
        rcases List.mem_append.1 hm with hm | hm
        · rcases List.mem_append.1 hm with hm | hm
          · revert hm; decide
          · exact (name_no10 (h.lea x hx).1 _ hm).1 rfl
        · exact nums_no (by decide) (by decide) (by decide) hm
  have hne : tabL T ≠ [] := by simp [tabL]
  have e1 := join_lines (tabL T) hne
  rw [← text_tabL] at e1
  refine ref_some (by rw [← e1]; simp) ?_ h
  rw [← e1, List.dropLast_concat, words_joinc 10 _ hne hno]
  unfold tabL
  rw [lnsR, step_locks bL]
  simp only []
  rw [lns_ses (T := ⟨T.now, T.ls, T.lf, [], []⟩) (show 0 < 0 + 1 by omega) bS rfl, lns_lea (T := ⟨T.now, T.ls, T.lf, [] ++ T.ses, []⟩) (show 0 < 0 + 1 + T.ses.length by omega) bX]
  simp
end Go.Proofs.YtneiljaknmeagaaGreatDoor
