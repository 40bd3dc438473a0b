/-
  Decimal numbers, lists of them as texts and back: in plain words. Without conditions.
-/
import Derived.Test.YtnnhbnkelgmaaaaDoorC4
import Derived.Test.YtnnhbnkelgmaaaaDoorPw
namespace Go.Proofs.YtnnhbnkelgmaaaaDoor
set_option linter.unusedVariables false
set_option linter.unusedSimpArgs false
theorem dig_byte {k : Nat} (h : k < 10) : (UInt8.ofNat (48 + k)).toNat = 48 + k := by
  simp
  omega
theorem digs_app : ∀ (u v : List UInt8) (n m : Int), digs n u = some m → digs n (u ++ v) = digs m v
  | [], v, n, m, h => by simp [digs] at h; subst h; rfl
  | b :: r, v, n, m, h => by
    rw [digs] at h
    rw [List.cons_append, digs]
    split at h
    · rename_i hb
      rw [if_pos hb]
      exact digs_app r v _ _ h
    · cases h
theorem digs_dig (n : Int) {k : Nat} (h : k < 10) : digs n [UInt8.ofNat (48 + k)] = some (10 * n + k) := by
  have hb := dig_byte h
  rw [digs_ok (by omega) (by omega), hb, digs]
  congr 1
  omega
theorem digs_dec (u : Nat) : digs 0 (Lib.decDigits u) = some (u : Int) := by
  induction u using Nat.strongRecOn with
  | _ u ih =>
    by_cases h : u < 10
    · rw [Lib.decDigits, dif_pos h, digs_dig 0 h]; simp
    · rw [Lib.decDigits, dif_neg h, digs_app _ _ _ _ (ih (u / 10) (by omega)), digs_dig _ (Nat.mod_lt _ (by decide))]
      congr 1
      omega
theorem dec_ne (u : Nat) : Lib.decDigits u ≠ [] := by
  intro h
  have := Lib.decDigits_length u
  have := Lib.nDigits_pos u
  rw [h] at *
  simp at *
  omega
theorem dec_head (u : Nat) (h1 : 1 ≤ u) : (Lib.decDigits u).head? ≠ some 48 := by
  induction u using Nat.strongRecOn with
  | _ u ih =>
    by_cases h : u < 10
    · rw [Lib.decDigits, dif_pos h]
      intro hh
      have e : UInt8.ofNat (48 + u) = 48 := by simpa only [List.head?_cons, Option.some.injEq] using hh
      have := dig_byte h
      rw [e] at this
      have e2 : (48 : UInt8).toNat = 48 := rfl
      omega
    · rw [Lib.decDigits, dif_neg h]
      have := ih (u / 10) (by omega) (by omega)
      have hne := dec_ne (u / 10)
      cases hd : Lib.decDigits (u / 10) with
      | nil => exact absurd hd hne
      | cons b r => rw [hd] at this; simpa using this
theorem dec_isD (u : Nat) : ∀ b ∈ Lib.decDigits u, isD b = true := by
  induction u using Nat.strongRecOn with
  | _ u ih =>
    have key : ∀ k, k < 10 → isD (UInt8.ofNat (48 + k)) = true := fun k hk => by
      have := dig_byte hk
      simp only [isD, this]
      simp
      omega
    by_cases h : u < 10
    · rw [Lib.decDigits, dif_pos h]
      intro b hb
      simp only [List.mem_singleton] at hb
      subst hb
      exact key u h
    · rw [Lib.decDigits, dif_neg h]
      intro b hb
      rcases List.mem_append.1 hb with hb | hb
      · exact ih (u / 10) (by omega) b hb
      · simp only [List.mem_singleton] at hb
        subst hb
        exact key _ (Nat.mod_lt _ (by decide))
theorem nD_le : ∀ (k u : Nat), u < 10 ^ (k + 1) → Lib.nDigits u ≤ k + 1
  | 0, u, h => by rw [Lib.nDigits_small (by simpa using h)]; exact Nat.le_refl _
  | k + 1, u, h => by
    by_cases h1 : u < 10
    · rw [Lib.nDigits_small h1]; omega
    · rw [Lib.nDigits_big h1]
      have := nD_le k (u / 10) (by rw [Nat.pow_succ] at h; omega)
      omega
theorem itoa_dec {n : Int} (h : 0 ≤ n) : Lib.itoa n = Lib.decDigits n.toNat := by rw [Lib.itoa, if_neg (by omega)]
theorem blank_no {u : Nat} : (32 : UInt8) ∉ Lib.decDigits u := fun h => by
  have := dec_isD u _ h
  revert this
  decide
theorem numL_itoa {n : Int} (h1 : 1 ≤ n) (h2 : n < 1000000000) : numL (Lib.itoa n) = some n := by
  rw [itoa_dec (by omega), numL, if_neg, digs_dec]
  · congr 1; omega
  · have a := Lib.decDigits_length n.toNat
    have b := Lib.nDigits_pos n.toNat
    have c := nD_le 8 n.toNat (by omega)
    have d := dec_head n.toNat (by omega)
    rw [a]
    rintro (h | h | h)
    · omega
    · omega
    · exact d h
theorem digs_back : ∀ (l : List UInt8) (n : Int), digs 0 l = some n → l ≠ [] → l.head? ≠ some 48 → 1 ≤ n ∧ Lib.decDigits n.toNat = l := by
  have snoc : ∀ (r : List UInt8) (a : Int) (d : UInt8) (n : Int), digs a (r ++ [d]) = some n → ∃ m, digs a r = some m ∧ isD d = true ∧ n = 10 * m + ((d.toNat : Int) - 48) := by
    intro r
    induction r with
    | nil =>
      intro a d n h
      rw [List.nil_append, digs] at h
      split at h
      · rename_i hd
        simp [digs] at h
        exact ⟨a, rfl, hd, h.symm⟩
      · cases h
    | cons b r ih =>
      intro a d n h
      rw [List.cons_append, digs] at h
      rw [digs]
      split at h
      · rename_i hb
        rw [if_pos hb]
        exact ih _ d n h
      · cases h
  intro l
  have : ∀ (k : Nat) (l : List UInt8), l.length = k → ∀ (n : Int), digs 0 l = some n → l ≠ [] → l.head? ≠ some 48 → 1 ≤ n ∧ Lib.decDigits n.toNat = l := by
    intro k
    induction k with
    | zero => intro l hl n _ hne _; exact absurd (List.eq_nil_of_length_eq_zero hl) hne
    | succ k ih =>
      intro l hl n h hne hh
      rcases List.eq_nil_or_concat l with rfl | ⟨r, d, rfl⟩
      · exact absurd rfl hne
      · rw [List.concat_eq_append] at *
        obtain ⟨m, hm, hd, rfl⟩ := snoc r 0 d n h
        simp [isD] at hd
        have hbyte : ∀ (j : Nat), d.toNat = 48 + j → UInt8.ofNat (48 + j) = d := fun j hj => by rw [← hj]; exact UInt8.ofNat_toNat
        by_cases hr : r = []
        · subst hr
          simp [digs] at hm
          subst hm
          have h48 : d.toNat ≠ 48 := fun e => hh (by
            have := hbyte 0 (by omega)
            simp at this
            simp [← this])
          refine ⟨by omega, ?_⟩
          rw [Lib.decDigits, dif_pos (by omega), hbyte _ (by omega)]
          rfl
        · have hr0 : r.head? ≠ some 48 := by
            cases r with
            | nil => exact absurd rfl hr
            | cons b r => simpa using hh
          obtain ⟨h1, h2⟩ := ih r (by simpa using hl) m hm hr hr0
          refine ⟨by omega, ?_⟩
          rw [Lib.decDigits, dif_neg (by omega), hbyte _ (by omega)]
          rw [show (10 * m + ((d.toNat : Int) - 48)).toNat / 10 = m.toNat by omega, h2]
  exact this _ l rfl
theorem numL_back {l : List UInt8} {n : Int} (h : numL l = some n) : 1 ≤ n ∧ Lib.itoa n = l := by
  rw [numL] at h
  split at h
  · cases h
  · rename_i hn
    have hne : l ≠ [] := by rintro rfl; simp at hn
    obtain ⟨h1, h2⟩ := digs_back l n h hne (by intro e; exact hn (.inr (.inr e)))
    exact ⟨h1, by rw [itoa_dec (by omega), h2]⟩
/-! lists of numbers -/
def nums : List (List UInt8) → Option (List Int)
  | [] => some []
  | w :: ws => match numL w with
    | none => none
    | some n => match nums ws with
      | none => none
      | some l => some (n :: l)
theorem nums_app : ∀ {u v : List (List UInt8)} {a b : List Int}, nums u = some a → nums v = some b → nums (u ++ v) = some (a ++ b)
  | [], v, a, b, h, h2 => by simp [nums] at h; subst h; exact h2
  | w :: u, v, a, b, h, h2 => by
    rw [nums] at h
    rw [List.cons_append, nums]
    cases hw : numL w with
    | none => simp [hw] at h
    | some n =>
      cases hu : nums u with
      | none => simp [hw, hu] at h
      | some c =>
        simp [hw, hu] at h
        subst h
        simp [nums_app hu h2]
theorem nums_one {w : List UInt8} {n : Int} (h : numL w = some n) : nums [w] = some [n] := by simp [nums, h]
theorem nums_bad : ∀ {u v : List (List UInt8)} {w : List UInt8}, numL w = none → nums (u ++ w :: v) = none
  | [], v, w, h => by simp [nums, h]
  | x :: u, v, w, h => by
    rw [List.cons_append, nums, nums_bad h]
    cases numL x <;> rfl
theorem nums_len : ∀ {u : List (List UInt8)} {a : List Int}, nums u = some a → a.length = u.length
  | [], a, h => by simp [nums] at h; subst h; rfl
  | w :: u, a, h => by
    rw [nums] at h
    cases hw : numL w with
    | none => simp [hw] at h
    | some n =>
      cases hu : nums u with
      | none => simp [hw, hu] at h
      | some c =>
        simp [hw, hu] at h
        subst h
        simp [nums_len hu]
theorem nums_back : ∀ {u : List (List UInt8)} {a : List Int}, nums u = some a → a.map Lib.itoa = u
  | [], a, h => by simp [nums] at h; subst h; rfl
  | w :: u, a, h => by
    rw [nums] at h
    cases hw : numL w with
    | none => simp [hw] at h
    | some n =>
      cases hu : nums u with
      | none => simp [hw, hu] at h
      | some c =>
        simp [hw, hu] at h
        subst h
        simp [nums_back hu, (numL_back hw).2]
theorem nums_itoa : ∀ {a : List Int}, (∀ j, j < a.length → 1 ≤ a.getD j 0 ∧ a.getD j 0 ≤ 5184000) → nums (a.map Lib.itoa) = some a
  | [], _ => rfl
  | n :: a, h => by
    have h0 := h 0 (by simp)
    simp at h0
    have hr := nums_itoa (a := a) fun j hj => by
      have := h (j + 1) (by simpa using hj)
      simpa using this
    simp [nums, numL_itoa h0.1 (by omega), hr]
/-! words and their join -/
theorem wordsL_ne (s : List UInt8) : wordsL s ≠ [] := by
  cases s with
  | nil => simp [wordsL]
  | cons b r =>
    rw [wordsL]
    split
    · simp
    · cases wordsL r <;> simp [addB]
theorem join_addB (b : UInt8) {ws : List (List UInt8)} (h : ws ≠ []) : Lib.join (addB b ws) [32] = b :: Lib.join ws [32] := by
  cases ws with
  | nil => exact absurd rfl h
  | cons w ws => simp [addB, Lib.join_cons]
theorem join_words : ∀ s : List UInt8, Lib.join (wordsL s) [32] = s
  | [] => rfl
  | b :: r => by
    rw [wordsL]
    split
    · rename_i hb
      subst hb
      have hne := wordsL_ne r
      have ih := join_words r
      cases hw : wordsL r with
      | nil => exact absurd hw hne
      | cons w ws =>
        rw [hw, Lib.join_cons] at ih
        rw [Lib.join_cons, Lib.joinTail]
        rw [Lib.joinTail] at ih
        simp
        exact ih
    · rw [join_addB _ (wordsL_ne r), join_words r]
theorem words_tail : ∀ (u : List UInt8) (r : List (List UInt8)), 32 ∉ u → (∀ w ∈ r, 32 ∉ w) → wordsL (u ++ Lib.joinTail [32] r) = u :: r
  | u, [], h, _ => by simp [Lib.joinTail]; exact wordsL_no h
  | u, w :: r, h, hr => by
    have e : Lib.joinTail [32] (w :: r) = 32 :: (w ++ Lib.joinTail [32] r) := by simp [Lib.joinTail]
    rw [e, wordsL_cut h, words_tail w r (hr w List.mem_cons_self) fun x hx => hr x (List.mem_cons_of_mem _ hx)]
theorem words_join {ws : List (List UInt8)} (hne : ws ≠ []) (h : ∀ w ∈ ws, 32 ∉ w) : wordsL (Lib.join ws [32]) = ws := by
  cases ws with
  | nil => exact absurd rfl hne
  | cons w r => rw [Lib.join_cons]; exact words_tail w r (h w List.mem_cons_self) fun x hx => h x (List.mem_cons_of_mem _ hx)
/-! a text's list, and back -/
def parseV (s : List UInt8) : List Int × Int :=
  if s = [45] then ([], 0) else match nums (wordsL s) with
    | none => ([], 4)
    | some l => if chkS l = 0 then (l, 0) else ([], chkS l)
theorem parseV_dash : parseV [45] = ([], 0) := rfl
theorem parseV_none {s : List UInt8} (h : s ≠ [45]) (h1 : nums (wordsL s) = none) : parseV s = ([], 4) := by rw [parseV, if_neg h, h1]
theorem parseV_bad {s : List UInt8} {l : List Int} (h : s ≠ [45]) (h1 : nums (wordsL s) = some l) (h2 : chkS l ≠ 0) : parseV s = ([], chkS l) := by
  rw [parseV, if_neg h, h1]
  exact if_neg h2
theorem parseV_some {s : List UInt8} {l : List Int} (h : s ≠ [45]) (h1 : nums (wordsL s) = some l) (h2 : chkS l = 0) : parseV s = (l, 0) := by
  rw [parseV, if_neg h, h1]
  exact if_pos h2
theorem parse_txt {xs : List Int} (h : chkS xs = 0) : parseV (txt xs).data.toList = (xs, 0) := by
  by_cases h0 : xs.length = 0
  · rw [txt_none h h0, List.eq_nil_of_length_eq_zero h0]; rfl
  · have hbd := chkS_bd h
    have e : (txt xs).data.toList = Lib.join (xs.map Lib.itoa) [32] := by rw [txt_some h (by omega)]
    have hne : xs.map Lib.itoa ≠ [] := by
      intro e
      rw [List.map_eq_nil_iff] at e
      subst e
      exact h0 rfl
    have hw := words_join hne (fun w hw => by
      obtain ⟨x, hx, rfl⟩ := List.mem_map.1 hw
      obtain ⟨j, hj, rfl⟩ := List.getElem_of_mem hx
      have := hbd j hj
      rw [show xs.getD j 0 = xs[j] by simp [hj]] at this
      rw [itoa_dec (by omega)]
      exact blank_no)
    have hn := nums_itoa hbd
    rw [e]
    refine parseV_some ?_ (by rw [hw]; exact hn) h
    intro hd
    rw [hd] at hw
    rw [← hw] at hn
    exact absurd hn (by rw [show nums (wordsL [45]) = none by decide]; simp)
theorem txt_parse {s : ByteArray} (h : (parseV s.data.toList).2 = 0) : chkS (parseV s.data.toList).1 = 0 ∧ txt (parseV s.data.toList).1 = s := by
  obtain ⟨⟨s⟩⟩ := s
  simp only at h ⊢
  by_cases hd : s = [45]
  · subst hd
    exact ⟨rfl, rfl⟩
  · cases hn : nums (wordsL s) with
    | none => rw [parseV_none hd hn] at h; cases h
    | some l =>
      by_cases hc : chkS l = 0
      · rw [parseV_some hd hn hc]
        refine ⟨hc, ?_⟩
        have hl := nums_len hn
        have hpos : 0 < l.length := by
          have := wordsL_ne s
          rw [hl]
          exact List.length_pos_iff.2 this
        rw [txt_some hc hpos, nums_back hn, join_words]
      · rw [parseV_bad hd hn hc] at h
        exact absurd h hc
end Go.Proofs.YtnnhbnkelgmaaaaDoor
