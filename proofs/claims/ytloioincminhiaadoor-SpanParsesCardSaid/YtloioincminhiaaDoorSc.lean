/-
  Sets of frames with their limits, in plain words: what Check finds, and what the operations give. Without conditions.
-/
import Derived.Test.YtloioincminhiaaDoorSa
namespace Go.Proofs.YtloioincminhiaaDoor
set_option linter.unusedVariables false
set_option linter.unusedSimpArgs false
abbrev mT : Int := 10378368000
def aft (p : Option Int) (i : Int) : Bool := match p with | some q => decide (i ≤ q) | none => false
/-- The first error from a span on; the end of the one ahead of it, if there is one. -/
def chkL : Option Int → List Spn → Int
  | _, [] => 0
  | p, s :: L =>
    if s.i < 0 ∨ mT < s.o then 2
    else if s.o ≤ s.i then 1
    else if aft p s.i = true then 8
    else chkL (some s.o) L
def chkS (L : List Spn) : Int := if 400 < L.length then 9 else chkL none L
theorem chkL_ok : ∀ {L : List Spn} {p : Option Int}, chkL p L = 0 ↔ Can L ∧ (∀ s ∈ L, 0 ≤ s.i ∧ s.o ≤ mT) ∧ (∀ q, p = some q → ∀ s ∈ L, q < s.i)
  | [], p => ⟨fun _ => ⟨trivial, (fun s h => by cases h), (fun q hq s h => by cases h)⟩, fun _ => rfl⟩
  | s :: L, p => by
    unfold chkL
    constructor
    · intro h
      split at h
      · cases h
      · rename_i h1
        split at h
        · cases h
        · rename_i h2
          split at h
          · cases h
          · rename_i h3
            obtain ⟨c1, c2, c3⟩ := chkL_ok.1 h
            have hp : ∀ q, p = some q → q < s.i := by
              intro q hq
              rw [hq] at h3
              simpa [aft] using h3
            refine ⟨⟨by omega, fun t ht => c3 _ rfl t ht, c1⟩, fun t ht => ?_, fun q hq t ht => ?_⟩
            · rcases List.mem_cons.1 ht with rfl | ht
              · omega
              · exact c2 t ht
            · have := hp q hq
              rcases List.mem_cons.1 ht with rfl | ht
              · exact this
              · have := c3 _ rfl t ht
                omega
    · rintro ⟨⟨c1, c2, c3⟩, h2, h3⟩
      have := h2 s (List.mem_cons_self ..)
      rw [if_neg (by omega), if_neg (by omega), if_neg, chkL_ok]
      · exact ⟨c3, fun t ht => h2 t (List.mem_cons_of_mem _ ht), fun q hq t ht => by cases hq; exact c2 t ht⟩
      · cases p with
        | none => simp [aft]
        | some q =>
          have := h3 q rfl s (List.mem_cons_self ..)
          simp [aft]
          omega
theorem chkS_ok {L : List Spn} : chkS L = 0 ↔ L.length ≤ 400 ∧ Can L ∧ ∀ s ∈ L, 0 ≤ s.i ∧ s.o ≤ mT := by
  unfold chkS
  split
  · rename_i h
    constructor
    · intro h; cases h
    · rintro ⟨h1, _⟩; omega
  · rename_i h
    rw [chkL_ok]
    constructor
    · rintro ⟨h1, h2, _⟩; exact ⟨by omega, h1, h2⟩
    · rintro ⟨_, h1, h2⟩; exact ⟨h1, h2, fun q hq => by cases hq⟩
/-- A list that is not too long. -/
def limS (L : List Spn) : List Spn × Int := if 400 < L.length then ([], 9) else (L, 0)
def outB (s : Spn) : Bool := decide (s.i < s.o) && (decide (s.i < 0) || decide (mT < s.o))
def norS (L : List Spn) : List Spn × Int := if 400 < L.length then ([], 9) else if L.any outB = true then ([], 2) else (joinS L, 0)
def twoS (A B : List Spn) : Int := if chkS A = 0 then chkS B else chkS A
def uniS (A B : List Spn) : List Spn × Int := if twoS A B = 0 then limS (joinS (A ++ B)) else ([], twoS A B)
def intS (A B : List Spn) : List Spn × Int := if twoS A B = 0 then limS (comS A B) else ([], twoS A B)
def subS (A B : List Spn) : List Spn × Int := if twoS A B = 0 then limS (comS A (rstS (mT + 1) 0 B)) else ([], twoS A B)
def gapS (L : List Spn) (s : Spn) : List Spn × Int := if chkS L = 0 then subS [s] L else ([], chkS L)
def lnS (L : List Spn) : Int × Int := if chkS L = 0 then (lenS L, 0) else (0, chkS L)
theorem twoS_ok {A B : List Spn} : twoS A B = 0 ↔ chkS A = 0 ∧ chkS B = 0 := by
  unfold twoS
  split
  · rename_i h; exact ⟨fun h2 => ⟨h, h2⟩, fun h2 => h2.2⟩
  · rename_i h; exact ⟨fun h2 => absurd h2 h, fun h2 => h2.1⟩
/-! The reference's ways -/
def intR (A B : List Spn) : List Spn := joinS (A.flatMap fun s => B.map (cutS s))
theorem crossS_mem (A B : List Spn) (n : Int) : MemS n (A.flatMap fun s => B.map (cutS s)) ↔ MemS n A ∧ MemS n B := by
  unfold MemS
  constructor
  · rintro ⟨u, hu, hn⟩
    rw [List.mem_flatMap] at hu
    obtain ⟨s, hs, hu⟩ := hu
    obtain ⟨t, ht, rfl⟩ := List.mem_map.1 hu
    obtain ⟨h1, h2⟩ := (cutS_has s t n).1 hn
    exact ⟨⟨s, hs, h1⟩, t, ht, h2⟩
  · rintro ⟨⟨s, hs, h1⟩, t, ht, h2⟩
    exact ⟨cutS s t, List.mem_flatMap.2 ⟨s, hs, List.mem_map_of_mem ht⟩, (cutS_has s t n).2 ⟨h1, h2⟩⟩
theorem intR_eq {A B : List Spn} (ha : Can A) (hb : Can B) : intR A B = comS A B :=
  joinS_self (comS_can ha hb) _ (fun n => by rw [crossS_mem, comS_mem])
theorem in_top {B : List Spn} (h : ∀ s ∈ B, 0 ≤ s.i ∧ s.o ≤ mT) : InS (mT + 1) B := fun s hs => by have := (h s hs).2; omega
theorem rest_mem {B : List Spn} (hc : Can B) (h : ∀ s ∈ B, 0 ≤ s.i ∧ s.o ≤ mT) (n : Int) : MemS n (rstS (mT + 1) 0 B) ↔ 0 ≤ n ∧ n < mT + 1 ∧ ¬ MemS n B :=
  rstS_mem _ _ hc (fun s hs => (h s hs).1) (in_top h) n
theorem rest_can {B : List Spn} (hc : Can B) (h : ∀ s ∈ B, 0 ≤ s.i ∧ s.o ≤ mT) : Can (rstS (mT + 1) 0 B) :=
  rstS_can _ _ hc (fun s hs => (h s hs).1) (in_top h) (by decide)
theorem mem_bd {A : List Spn} (h : ∀ s ∈ A, 0 ≤ s.i ∧ s.o ≤ mT) {n : Int} (hn : MemS n A) : 0 ≤ n ∧ n < mT := by
  obtain ⟨s, hs, h1, h2⟩ := hn
  have := h s hs
  omega
theorem sub_mem {A B : List Spn} (ha : ∀ s ∈ A, 0 ≤ s.i ∧ s.o ≤ mT) (hc : Can B) (hb : ∀ s ∈ B, 0 ≤ s.i ∧ s.o ≤ mT) (n : Int) : MemS n (comS A (rstS (mT + 1) 0 B)) ↔ MemS n A ∧ ¬ MemS n B := by
  rw [comS_mem, rest_mem hc hb]
  constructor
  · rintro ⟨h1, _, _, h2⟩; exact ⟨h1, h2⟩
  · rintro ⟨h1, h2⟩
    have := mem_bd ha h1
    exact ⟨h1, this.1, by omega, h2⟩
theorem subR_eq {A B : List Spn} (hca : Can A) (ha : ∀ s ∈ A, 0 ≤ s.i ∧ s.o ≤ mT) (hc : Can B) (hb : ∀ s ∈ B, 0 ≤ s.i ∧ s.o ≤ mT) : joinS (minR A B) = comS A (rstS (mT + 1) 0 B) :=
  joinS_self (comS_can hca (rest_can hc hb)) _ (fun n => by rw [minR_mem A hc, sub_mem ha hc hb])
/-! Sets lie within what they come of, and are not longer -/
theorem stp_len (out : List Spn) (s : Spn) : (stp out s).length ≤ out.length + 1 := by
  unfold stp
  split
  · cases out with
    | nil => simp
    | cons l r =>
      simp only []
      split <;> simp
  · omega
theorem foldl_stp_len : ∀ (L out : List Spn), (L.foldl stp out).length ≤ out.length + L.length
  | [], out => by simp
  | s :: L, out => by
    rw [List.foldl_cons]
    have := foldl_stp_len L (stp out s)
    have := stp_len out s
    simp
    omega
theorem putS_len (L : List Spn) (s : Spn) : (putS L s).length = L.length + 1 := by
  unfold putS
  have := congrArg List.length (List.takeWhile_append_dropWhile (p := fun t : Spn => decide (t.i ≤ s.i)) (l := L))
  rw [List.length_append] at this
  rw [List.length_append, List.length_cons]
  omega
theorem foldl_put_len : ∀ (L out : List Spn), (L.foldl (fun out s => if s.i < s.o then putS out s else out) out).length ≤ out.length + L.length
  | [], out => by simp
  | s :: L, out => by
    rw [List.foldl_cons]
    by_cases h : s.i < s.o
    · rw [if_pos h]
      have := foldl_put_len L (putS out s)
      rw [putS_len] at this
      simp
      omega
    · rw [if_neg h]
      have := foldl_put_len L out
      simp
      omega
theorem mrg_len (L : List Spn) : (mrg L).length ≤ L.length := by
  unfold mrg
  have := foldl_stp_len L []
  simp at this ⊢
  exact this
theorem joinS_len (L : List Spn) : (joinS L).length ≤ L.length := by
  have h1 := mrg_len (srtR L)
  have h2 := foldl_put_len L []
  have h3 : (srtR L).length ≤ L.length := by simpa [srtR] using h2
  exact Nat.le_trans h1 h3
theorem can_in {C : List Spn} (hc : Can C) (h : ∀ n, MemS n C → 0 ≤ n ∧ n < mT) : ∀ s ∈ C, 0 ≤ s.i ∧ s.o ≤ mT := by
  intro s hs
  have h0 := can_pos hc s hs
  have h1 := h s.i ⟨s, hs, Int.le_refl _, h0⟩
  have h2 := h (s.o - 1) ⟨s, hs, by omega, by omega⟩
  omega
theorem any_in {L : List Spn} (h : L.any outB = false) {n : Int} (hn : MemS n L) : 0 ≤ n ∧ n < mT := by
  obtain ⟨s, hs, h1, h2⟩ := hn
  have h3 : outB s = false := by
    have := List.any_eq_false.1 h s hs
    simpa using this
  unfold outB at h3
  have h4 : s.i < s.o := by omega
  simp [h4] at h3
  omega
theorem norS_chk {L : List Spn} (h : (norS L).2 = 0) : chkS (norS L).1 = 0 ∧ ∀ n, MemS n (norS L).1 ↔ MemS n L := by
  unfold norS at h ⊢
  split at h
  · cases h
  · rename_i h1
    split at h
    · cases h
    · rename_i h2
      rw [if_neg h1, if_neg h2]
      have h3 : L.any outB = false := by simpa using h2
      refine ⟨chkS_ok.2 ⟨?_, joinS_can L, can_in (joinS_can L) (fun n hn => any_in h3 ((joinS_mem L n).1 hn))⟩, joinS_mem L⟩
      have := joinS_len L
      show (joinS L).length ≤ 400
      omega
theorem norS_bad {L : List Spn} (h : (norS L).2 ≠ 0) : (norS L).1 = [] := by
  unfold norS at h ⊢
  split
  · rfl
  · split
    · rfl
    · rename_i h1 h2
      rw [if_neg h1, if_neg h2] at h
      exact absurd rfl h
theorem limS_ok {L : List Spn} (h : (limS L).2 = 0) : (limS L).1 = L ∧ L.length ≤ 400 := by
  unfold limS at h ⊢
  split at h
  · cases h
  · rename_i h1
    rw [if_neg h1]
    exact ⟨rfl, by omega⟩
theorem uniS_ok {A B : List Spn} (h : (uniS A B).2 = 0) : chkS A = 0 ∧ chkS B = 0 ∧ chkS (uniS A B).1 = 0 ∧ ∀ n, MemS n (uniS A B).1 ↔ MemS n A ∨ MemS n B := by
  unfold uniS at h ⊢
  split at h
  · rename_i h1
    rw [if_pos h1]
    obtain ⟨ha, hb⟩ := twoS_ok.1 h1
    obtain ⟨e, hl⟩ := limS_ok h
    rw [e]
    obtain ⟨_, _, ka⟩ := chkS_ok.1 ha
    obtain ⟨_, _, kb⟩ := chkS_ok.1 hb
    have hm : ∀ n, MemS n (joinS (A ++ B)) ↔ MemS n A ∨ MemS n B := fun n => by rw [joinS_mem, memS_append]
    exact ⟨ha, hb, chkS_ok.2 ⟨hl, joinS_can _, can_in (joinS_can _) (fun n hn => ((hm n).1 hn).elim (mem_bd ka) (mem_bd kb))⟩, hm⟩
  · rename_i h1
    exact absurd h h1
theorem intS_ok {A B : List Spn} (h : (intS A B).2 = 0) : chkS A = 0 ∧ chkS B = 0 ∧ chkS (intS A B).1 = 0 ∧ ∀ n, MemS n (intS A B).1 ↔ MemS n A ∧ MemS n B := by
  unfold intS at h ⊢
  split at h
  · rename_i h1
    rw [if_pos h1]
    obtain ⟨ha, hb⟩ := twoS_ok.1 h1
    obtain ⟨e, hl⟩ := limS_ok h
    rw [e]
    obtain ⟨_, ca, ka⟩ := chkS_ok.1 ha
    obtain ⟨_, cb, kb⟩ := chkS_ok.1 hb
    exact ⟨ha, hb, chkS_ok.2 ⟨hl, comS_can ca cb, can_in (comS_can ca cb) (fun n hn => mem_bd ka ((comS_mem A B n).1 hn).1)⟩, comS_mem A B⟩
  · rename_i h1
    exact absurd h h1
theorem subS_ok {A B : List Spn} (h : (subS A B).2 = 0) : chkS A = 0 ∧ chkS B = 0 ∧ chkS (subS A B).1 = 0 ∧ ∀ n, MemS n (subS A B).1 ↔ MemS n A ∧ ¬ MemS n B := by
  unfold subS at h ⊢
  split at h
  · rename_i h1
    rw [if_pos h1]
    obtain ⟨ha, hb⟩ := twoS_ok.1 h1
    obtain ⟨e, hl⟩ := limS_ok h
    rw [e]
    obtain ⟨_, ca, ka⟩ := chkS_ok.1 ha
    obtain ⟨_, cb, kb⟩ := chkS_ok.1 hb
    have hm := sub_mem ka cb kb
    exact ⟨ha, hb, chkS_ok.2 ⟨hl, comS_can ca (rest_can cb kb), can_in (comS_can ca (rest_can cb kb)) (fun n hn => mem_bd ka ((hm n).1 hn).1)⟩, hm⟩
  · rename_i h1
    exact absurd h h1
/-! ### How many numbers -/
open Classical in
/-- How many numbers below N are of a kind. -/
noncomputable def cntP (P : Int → Prop) : Nat → Int
  | 0 => 0
  | N + 1 => cntP P N + if P N then 1 else 0
theorem cnt_two (P Q : Int → Prop) : ∀ N, cntP (fun n => P n ∨ Q n) N + cntP (fun n => P n ∧ Q n) N = cntP P N + cntP Q N
  | 0 => rfl
  | N + 1 => by
    have ih := cnt_two P Q N
    unfold cntP
    by_cases hp : P N <;> by_cases hq : Q N <;> simp [hp, hq] <;> omega
theorem cnt_sub (P Q : Int → Prop) : ∀ N, cntP (fun n => P n ∧ ¬ Q n) N + cntP (fun n => P n ∧ Q n) N = cntP P N
  | 0 => rfl
  | N + 1 => by
    have ih := cnt_sub P Q N
    unfold cntP
    by_cases hp : P N <;> by_cases hq : Q N <;> simp [hp, hq] <;> omega
theorem cnt_congr {P Q : Int → Prop} (h : ∀ n, P n ↔ Q n) : ∀ N, cntP P N = cntP Q N := by
  have : P = Q := funext fun n => propext (h n)
  subst this
  exact fun _ => rfl
theorem cnt_none {P : Int → Prop} : ∀ {N : Nat}, (∀ n : Int, 0 ≤ n → n < N → ¬ P n) → cntP P N = 0
  | 0, _ => rfl
  | N + 1, h => by
    unfold cntP
    rw [cnt_none (fun n h0 h1 => h n h0 (by omega)), if_neg (h N (by omega) (by omega))]
    rfl
theorem cnt_span {s : Spn} (h0 : 0 ≤ s.i) (h1 : s.i ≤ s.o) : ∀ {N : Nat}, cntP s.has N = if (N : Int) ≤ s.i then 0 else if (N : Int) ≤ s.o then N - s.i else s.o - s.i
  | 0 => by rw [if_pos (by omega)]; rfl
  | N + 1 => by
    unfold cntP
    rw [cnt_span h0 h1]
    have e : s.has (N : Int) ↔ s.i ≤ (N : Int) ∧ (N : Int) < s.o := Iff.rfl
    by_cases k1 : s.i ≤ (N : Int) ∧ (N : Int) < s.o
    · rw [if_pos (e.2 k1)]
      repeat' split
      all_goals omega
    · rw [if_neg (fun h => k1 (e.1 h))]
      repeat' split
      all_goals omega
theorem lenS_cnt : ∀ {L : List Spn} {N : Nat}, Can L → (∀ s ∈ L, 0 ≤ s.i ∧ s.o ≤ N) → lenS L = cntP (fun n => MemS n L) N
  | [], N, _, _ => (cnt_none (fun n _ _ => memS_nil)).symm
  | s :: L, N, hc, h => by
    have h1 := h s (List.mem_cons_self ..)
    have h2 := hc.1
    have ih := lenS_cnt hc.2.2 (fun t ht => h t (List.mem_cons_of_mem _ ht))
    have h3 := cnt_two s.has (fun n => MemS n L) N
    have h4 : cntP (fun n => s.has n ∧ MemS n L) N = 0 := cnt_none (fun n _ _ hn => by
      obtain ⟨hs, t, ht, h5, h6⟩ := hn
      have := hc.2.1 t ht
      have := hs.2
      omega)
    have h5 : cntP (fun n => MemS n (s :: L)) N = cntP (fun n => s.has n ∨ MemS n L) N := cnt_congr (fun n => memS_cons) N
    have h6 := cnt_span (s := s) h1.1 (by omega) (N := N)
    rw [if_neg (by omega)] at h6
    have h7 : cntP s.has N = s.o - s.i := by
      rw [h6]
      split <;> omega
    have h8 : lenS (s :: L) = (s.o - s.i) + lenS L := by simp [lenS]
    rw [h5, h8]
    omega
theorem lnS_cnt {L : List Spn} (h : chkS L = 0) : lnS L = (cntP (fun n => MemS n L) 10378368000, 0) := by
  unfold lnS
  rw [if_pos h]
  obtain ⟨_, hc, hb⟩ := chkS_ok.1 h
  rw [lenS_cnt hc (N := 10378368000) hb]
/-- The lengths add up. -/
theorem count_law {A B : List Spn} (hu : (uniS A B).2 = 0) (hi : (intS A B).2 = 0) (hs : (subS A B).2 = 0) :
    (lnS A).2 = 0 ∧ (lnS B).2 = 0 ∧ (lnS (uniS A B).1).2 = 0 ∧ (lnS (intS A B).1).2 = 0 ∧ (lnS (subS A B).1).2 = 0 ∧
      (lnS (uniS A B).1).1 + (lnS (intS A B).1).1 = (lnS A).1 + (lnS B).1 ∧ (lnS (subS A B).1).1 + (lnS (intS A B).1).1 = (lnS A).1 := by
  obtain ⟨ha, hb, u1, u2⟩ := uniS_ok hu
  obtain ⟨_, _, i1, i2⟩ := intS_ok hi
  obtain ⟨_, _, s1, s2⟩ := subS_ok hs
  rw [lnS_cnt ha, lnS_cnt hb, lnS_cnt u1, lnS_cnt i1, lnS_cnt s1, cnt_congr u2, cnt_congr i2, cnt_congr s2]
  exact ⟨rfl, rfl, rfl, rfl, rfl, cnt_two _ _ _, cnt_sub _ _ _⟩
theorem lenS_bd : ∀ {L : List Spn}, (∀ s ∈ L, 0 ≤ s.i ∧ s.i < s.o ∧ s.o ≤ mT) → 0 ≤ lenS L ∧ lenS L ≤ L.length * mT
  | [], _ => ⟨Int.le_refl _, Int.le_refl _⟩
  | s :: L, h => by
    have h1 := h s (List.mem_cons_self ..)
    obtain ⟨h2, h3⟩ := lenS_bd (fun t ht => h t (List.mem_cons_of_mem _ ht))
    have h8 : lenS (s :: L) = (s.o - s.i) + lenS L := by simp [lenS]
    rw [h8, List.length_cons]
    constructor
    · omega
    · have : ((L.length + 1 : Nat) : Int) * mT = L.length * mT + mT := by rw [Int.natCast_add, Int.add_mul]; simp
      omega
end Go.Proofs.YtloioincminhiaaDoor
