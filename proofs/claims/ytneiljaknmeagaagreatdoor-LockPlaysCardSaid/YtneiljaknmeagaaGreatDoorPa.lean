/-
  The table that a text spells, in plain words: line by line, as the program reads it, and in two steps, as the reference does. Without conditions.
-/
import Derived.Test.YtneiljaknmeagaaGreatDoorBf
import Derived.Test.YtneiljaknmeagaaGreatDoorBd
import Derived.Test.YtneiljaknmeagaaGreatDoorBe
import Derived.Lib.Join
namespace Go.Proofs.YtneiljaknmeagaaGreatDoor
set_option linter.unusedVariables false
set_option linter.unusedSimpArgs false
abbrev mTk : Int := 10378368000
abbrev mId : Int := 1099511627776
abbrev mRf : Int := 1109889995776
/-! numbers without leading zeros -/
def numP (m : Int) (l : List UInt8) : Option Int := match digs 0 l with
  | some n => if l ≠ [] ∧ (l.head? ≠ some 48 ∨ l = [48]) ∧ n ≤ m then some n else none
  | none => none
theorem itoa_zero : Lib.itoa 0 = [48] := by kernel_rfl
theorem numP_some {m : Int} {l : List UInt8} {n : Int} (h : numP m l = some n) : 0 ≤ n ∧ n ≤ m ∧ l = Lib.itoa n := by
  unfold numP at h
  cases hd : digs 0 l with
  | none => rw [hd] at h; cases h
  | some k =>
    rw [hd] at h
    simp only [] at h
    split at h
    · rename_i hc
      have e : k = n := Option.some.inj h
      subst e
      obtain ⟨h1, h2, h3⟩ := hc
      by_cases hz : l = [48]
      · rw [hz] at hd
        have e0 : k = 0 := by
          have e : digs 0 [48] = some 0 := by decide
          rw [e] at hd
          exact (Option.some.inj hd).symm
        rw [hz, e0]
        exact ⟨Int.le_refl _, by rw [e0] at h3; exact h3, itoa_zero.symm⟩
      · obtain ⟨k1, k2⟩ := digs_back l k hd h1 (h2.resolve_right hz)
        exact ⟨by omega, h3, by rw [itoa_dec (by omega), k2]⟩
    · cases h
theorem numP_itoa {m n : Int} (h0 : 0 ≤ n) (h1 : n ≤ m) : numP m (Lib.itoa n) = some n := by
  have hd : digs 0 (Lib.itoa n) = some n := by
    rw [itoa_dec h0, digs_dec]
    congr 1
    omega
  unfold numP
  rw [hd]
  simp only []
  rw [if_pos]
  refine ⟨itoa_ne n, ?_, h1⟩
  by_cases hz : n = 0
  · exact .inr (by rw [hz]; exact itoa_zero)
  · left
    rw [itoa_dec h0]
    exact dec_head _ (by omega)
def numsP (m : Int) : List (List UInt8) → Option (List Int)
  | [] => some []
  | u :: r => match numP m u with
    | some n => match numsP m r with
      | some ns => some (n :: ns)
      | none => none
    | none => none
theorem numsP_some {m : Int} : ∀ {W : List (List UInt8)} {ns : List Int}, numsP m W = some ns → W = ns.map Lib.itoa ∧ ∀ n ∈ ns, 0 ≤ n ∧ n ≤ m
  | [], ns, h => by
    have e : [] = ns := Option.some.inj h
    subst e
    exact ⟨rfl, fun n hn => by cases hn⟩
  | u :: r, ns, h => by
    unfold numsP at h
    split at h
    · rename_i n hn
      split at h
      · rename_i ns' hr
        have e : n :: ns' = ns := Option.some.inj h
        subst e
        obtain ⟨h0, h1, h2⟩ := numP_some hn
        obtain ⟨k1, k2⟩ := numsP_some hr
        refine ⟨by rw [List.map_cons, ← h2, ← k1], fun x hx => ?_⟩
        rcases List.mem_cons.1 hx with rfl | hx
        · exact ⟨h0, h1⟩
        · exact k2 x hx
      · cases h
    · cases h
theorem numsP_of {m : Int} : ∀ {ns : List Int}, (∀ n ∈ ns, 0 ≤ n ∧ n ≤ m) → numsP m (ns.map Lib.itoa) = some ns
  | [], _ => rfl
  | n :: ns, h => by
    have h1 := h n (List.mem_cons_self ..)
    rw [List.map_cons]
    unfold numsP
    rw [numP_itoa h1.1 h1.2, numsP_of (fun x hx => h x (List.mem_cons_of_mem _ hx))]
theorem numsP_more {m m' : Int} (hm : m ≤ m') {W : List (List UInt8)} {ns : List Int} (h : numsP m W = some ns) : numsP m' W = some ns := by
  obtain ⟨h1, h2⟩ := numsP_some h
  rw [h1]
  exact numsP_of (fun n hn => ⟨(h2 n hn).1, Int.le_trans (h2 n hn).2 hm⟩)
theorem numsP_less {m m' : Int} {W : List (List UInt8)} {ns : List Int} (h : numsP m' W = some ns) (hm : ∀ n ∈ ns, n ≤ m) : numsP m W = some ns := by
  obtain ⟨h1, h2⟩ := numsP_some h
  rw [h1]
  exact numsP_of (fun n hn => ⟨(h2 n hn).1, hm n hn⟩)
theorem numsP_len {m : Int} {W : List (List UInt8)} {ns : List Int} (h : numsP m W = some ns) : ns.length = W.length := by
  rw [(numsP_some h).1, List.length_map]
/-! tables that are sound -/
def AscI : List Int → Prop
  | [] => True
  | n :: r => (∀ k ∈ r, n < k) ∧ AscI r
def AscR : List Ls → Prop
  | [] => True
  | x :: r => (∀ y ∈ r, cmpB x.reel y.reel < 0) ∧ AscR r
/-- What a lease must be in a table. -/
def LsOk (T : Tb) (x : Ls) : Prop := nmB x.reel = true ∧ x.ses ∈ T.ses ∧ 1 ≤ x.fen ∧ x.fen ≤ T.lf ∧ T.now < x.unt ∧ x.unt ≤ T.now + 600
structure Snd (T : Tb) : Prop where
  now : 0 ≤ T.now ∧ T.now ≤ mTk
  ls : 0 ≤ T.ls ∧ T.ls ≤ mId
  lf : 0 ≤ T.lf ∧ T.lf ≤ mId
  slen : T.ses.length ≤ 8
  llen : T.lea.length ≤ 16
  ses : ∀ n ∈ T.ses, 1 ≤ n ∧ n ≤ T.ls
  asc : AscI T.ses
  lea : ∀ x ∈ T.lea, LsOk T x
  ord : AscR T.lea
  fen : T.lea.Pairwise fun x y => x.fen ≠ y.fen
theorem ascI_snoc : ∀ {L : List Int} {n : Int}, AscI (L ++ [n]) ↔ AscI L ∧ ∀ k ∈ L, k < n
  | [], n => ⟨fun _ => ⟨trivial, fun k hk => by cases hk⟩, fun _ => ⟨fun k hk => (by cases hk), trivial⟩⟩
  | a :: L, n => by
    constructor
    · rintro ⟨h1, h2⟩
      obtain ⟨k1, k2⟩ := ascI_snoc.1 h2
      refine ⟨⟨fun k hk => h1 k (List.mem_append_left _ hk), k1⟩, fun k hk => ?_⟩
      rcases List.mem_cons.1 hk with rfl | hk
      · exact h1 n (List.mem_append_right _ (List.mem_singleton.2 rfl))
      · exact k2 k hk
    · rintro ⟨⟨h1, h2⟩, h3⟩
      refine ⟨fun k hk => ?_, ascI_snoc.2 ⟨h2, fun k hk => h3 k (List.mem_cons_of_mem _ hk)⟩⟩
      rcases List.mem_append.1 hk with hk | hk
      · exact h1 k hk
      · rw [List.mem_singleton.1 hk]; exact h3 a (List.mem_cons_self ..)
theorem ascR_snoc : ∀ {L : List Ls} {x : Ls}, AscR (L ++ [x]) ↔ AscR L ∧ ∀ y ∈ L, cmpB y.reel x.reel < 0
  | [], x => ⟨fun _ => ⟨trivial, fun k hk => by cases hk⟩, fun _ => ⟨fun k hk => (by cases hk), trivial⟩⟩
  | a :: L, x => by
    constructor
    · rintro ⟨h1, h2⟩
      obtain ⟨k1, k2⟩ := ascR_snoc.1 h2
      refine ⟨⟨fun k hk => h1 k (List.mem_append_left _ hk), k1⟩, fun k hk => ?_⟩
      rcases List.mem_cons.1 hk with rfl | hk
      · exact h1 x (List.mem_append_right _ (List.mem_singleton.2 rfl))
      · exact k2 k hk
    · rintro ⟨⟨h1, h2⟩, h3⟩
      refine ⟨fun k hk => ?_, ascR_snoc.2 ⟨h2, fun k hk => h3 k (List.mem_cons_of_mem _ hk)⟩⟩
      rcases List.mem_append.1 hk with hk | hk
      · exact h1 k hk
      · rw [List.mem_singleton.1 hk]; exact h3 a (List.mem_cons_self ..)
theorem last_max : ∀ {L : List Int} {k : Int}, AscI L → L.getLast? = some k → ∀ n ∈ L, n ≤ k := by
  intro L k h hl n hn
  obtain ⟨M, rfl⟩ := List.getLast?_eq_some_iff.1 hl
  have := (ascI_snoc.1 h).2
  rcases List.mem_append.1 hn with hn | hn
  · exact Int.le_of_lt (this n hn)
  · rw [List.mem_singleton.1 hn]; exact Int.le_refl _
theorem last_maxR {L : List Ls} {z : Ls} {r : List UInt8} (h : AscR L) (hl : L.getLast? = some z) (hz : cmpB z.reel r < 0) : ∀ y ∈ L, cmpB y.reel r < 0 := by
  intro y hy
  obtain ⟨M, rfl⟩ := List.getLast?_eq_some_iff.1 hl
  rcases List.mem_append.1 hy with hy | hy
  · exact cmp_trans ((ascR_snoc.1 h).2 y hy) hz
  · rw [List.mem_singleton.1 hy]; exact hz
/-! the program's way: a line at a time -/
def sesB (T : Tb) (n : Int) : Bool := decide (1 ≤ n) && decide (n ≤ T.ls) && decide (T.ses.length < 8) && (match T.ses.getLast? with | some k => decide (k < n) | none => true)
def leaB (T : Tb) (x : Ls) : Bool :=
  (match T.lea.getLast? with | some y => decide (cmpB y.reel x.reel < 0) | none => true) && (decide (x.ses ∈ T.ses) && decide (1 ≤ x.fen) && decide (x.fen ≤ T.lf) && decide (T.now < x.unt) && decide (x.unt ≤ T.now + 600)) && T.lea.all (fun y => decide (y.fen ≠ x.fen))
def leaW : List UInt8 := [76, 69, 65, 83, 69]
def stepT (i : Nat) (W : List (List UInt8)) (T : Tb) : Option Tb :=
  if i = 0 ∧ W.head? = some locksW ∧ W.length = 4 then
    match numsP mId (W.drop 1) with
    | some [a, b, c] => if a ≤ mTk then some ⟨a, b, c, T.ses, T.lea⟩ else none
    | _ => none
  else if 0 < i ∧ W.head? = some sessionW ∧ W.length = 2 ∧ T.lea = [] then
    match numsP mId (W.drop 1) with
    | some [n] => if sesB T n = true then some ⟨T.now, T.ls, T.lf, T.ses ++ [n], T.lea⟩ else none
    | _ => none
  else if 0 < i ∧ W.head? = some leaW ∧ W.length = 5 then
    match numsP mId (W.drop 2) with
    | some [a, b, c] => if nmB (W.getD 1 []) = true ∧ T.lea.length < 16 ∧ leaB T ⟨W.getD 1 [], a, b, c⟩ = true then some ⟨T.now, T.ls, T.lf, T.ses, T.lea ++ [⟨W.getD 1 [], a, b, c⟩]⟩ else none
    | _ => none
  else none
def lnsT : Nat → List (List UInt8) → Tb → Option Tb
  | _, [], T => some T
  | i, l :: r, T => match stepT i (wordsC 32 l) T with
    | some T' => lnsT (i + 1) r T'
    | none => none
def parT (s : List UInt8) : Option Tb := if s.getLast? = some 10 then lnsT 0 (wordsC 10 s.dropLast) tb0 else none
/-! the reference's way: the form first -/
def stepR (i : Nat) (W : List (List UInt8)) (T : Tb) : Option Tb :=
  if i = 0 ∧ W.head? = some locksW ∧ W.length = 4 then
    match numsP mRf (W.drop 1) with
    | some [a, b, c] => some ⟨a, b, c, T.ses, T.lea⟩
    | _ => none
  else if 0 < i ∧ W.head? = some sessionW ∧ W.length = 2 ∧ T.lea = [] then
    match numsP mRf (W.drop 1) with
    | some [n] => some ⟨T.now, T.ls, T.lf, T.ses ++ [n], T.lea⟩
    | _ => none
  else if 0 < i ∧ W.head? = some leaW ∧ W.length = 5 then
    match numsP mRf (W.drop 2) with
    | some [a, b, c] => some ⟨T.now, T.ls, T.lf, T.ses, T.lea ++ [⟨W.getD 1 [], a, b, c⟩]⟩
    | _ => none
  else none
def lnsR : Nat → List (List UInt8) → Tb → Option Tb
  | _, [], T => some T
  | i, l :: r, T => match stepR i (wordsC 32 l) T with
    | some T' => lnsR (i + 1) r T'
    | none => none
/-- The steps of the program are steps of the reference. -/
theorem step_ref {i : Nat} {W : List (List UInt8)} {T T' : Tb} (h : stepT i W T = some T') : stepR i W T = some T' := by
  unfold stepT at h
  unfold stepR
  split at h
  · rename_i hc
    rw [if_pos hc]
    split at h
    · rename_i a b c hn
      rw [numsP_more (by decide) hn]
      split at h
      · exact h
      · cases h
    · cases h
  · rename_i hc
    rw [if_neg hc]
    split at h
    · rename_i hc2
      rw [if_pos hc2]
      split at h
      · rename_i n hn
        rw [numsP_more (by decide) hn]
        split at h
        · exact h
        · cases h
      · cases h
    · rename_i hc2
      rw [if_neg hc2]
      split at h
      · rename_i hc3
        rw [if_pos hc3]
        split at h
        · rename_i a b c hn
          rw [numsP_more (by decide) hn]
          split at h
          · exact h
          · cases h
        · cases h
      · cases h
theorem lns_ref : ∀ {L : List (List UInt8)} {i : Nat} {T T' : Tb}, lnsT i L T = some T' → lnsR i L T = some T'
  | [], i, T, T', h => h
  | l :: r, i, T, T', h => by
    unfold lnsT at h
    unfold lnsR
    split at h
    · rename_i T1 h1
      rw [step_ref h1]
      exact lns_ref h
    · cases h
/-- What a step behind the first line leaves of a table. -/
def Ext (T T' : Tb) : Prop := T'.now = T.now ∧ T'.ls = T.ls ∧ T'.lf = T.lf ∧ T.ses <+: T'.ses ∧ T.lea <+: T'.lea ∧ (T.lea ≠ [] → T'.ses = T.ses)
theorem Ext.refl (T : Tb) : Ext T T := ⟨rfl, rfl, rfl, List.prefix_refl _, List.prefix_refl _, fun _ => rfl⟩
theorem Ext.trans {a b c : Tb} (h : Ext a b) (k : Ext b c) : Ext a c := by
  obtain ⟨h1, h2, h3, h4, h5, h6⟩ := h
  obtain ⟨k1, k2, k3, k4, k5, k6⟩ := k
  refine ⟨k1.trans h1, k2.trans h2, k3.trans h3, h4.trans k4, h5.trans k5, fun he => ?_⟩
  have hb : b.lea ≠ [] := fun e => he (by rw [e] at h5; exact List.prefix_nil.1 h5)
  rw [k6 hb, h6 he]
theorem step_ext {i : Nat} {W : List (List UInt8)} {T T' : Tb} (hi : 0 < i) (h : stepR i W T = some T') : Ext T T' := by
  unfold stepR at h
  rw [if_neg (by omega)] at h
  split at h
  · rename_i hc
    split at h
    · have e := Option.some.inj h
      subst e
      exact ⟨rfl, rfl, rfl, List.prefix_append _ _, List.prefix_refl _, fun he => absurd hc.2.2.2 he⟩
    · cases h
  · split at h
    · split at h
      · have e := Option.some.inj h
        subst e
        exact ⟨rfl, rfl, rfl, List.prefix_refl _, List.prefix_append _ _, fun _ => rfl⟩
      · cases h
    · cases h
theorem lns_ext : ∀ {L : List (List UInt8)} {i : Nat} {T T' : Tb}, 0 < i → lnsR i L T = some T' → Ext T T'
  | [], i, T, T', _, h => by
    have e : T = T' := Option.some.inj h
    subst e
    exact Ext.refl _
  | l :: r, i, T, T', hi, h => by
    unfold lnsR at h
    split at h
    · rename_i T1 h1
      exact (step_ext hi h1).trans (lns_ext (Nat.succ_pos i) h)
    · cases h
theorem asc_pre {L M : List Int} (h : L <+: M) (ha : AscI M) : AscI L := by
  obtain ⟨r, rfl⟩ := h
  induction L with
  | nil => trivial
  | cons a L ih => exact ⟨fun k hk => ha.1 k (List.mem_append_left _ hk), ih ha.2⟩
theorem ascR_pre {L M : List Ls} (h : L <+: M) (ha : AscR M) : AscR L := by
  obtain ⟨r, rfl⟩ := h
  induction L with
  | nil => trivial
  | cons a L ih => exact ⟨fun k hk => ha.1 k (List.mem_append_left _ hk), ih ha.2⟩
/-- A step of the reference on the way to a sound table is a step of the program. -/
theorem step_snd {i : Nat} {W : List (List UInt8)} {T T1 T' : Tb} (h : stepR i W T = some T1) (he : Ext T1 T') (hs : Snd T') : stepT i W T = some T1 := by
  obtain ⟨e1, e2, e3, e4, e5, e6⟩ := he
  unfold stepR at h
  unfold stepT
  split at h
  · rename_i hc
    rw [if_pos hc]
    split at h
    · rename_i a b c hn
      have e := Option.some.inj h
      subst e
      simp only [] at e1 e2 e3
      have h1 := hs.now
      have h2 := hs.ls
      have h3 := hs.lf
      rw [e1] at h1
      rw [e2] at h2
      rw [e3] at h3
      have h1b : a ≤ 10378368000 := h1.2
      rw [numsP_less (m := mId) hn (fun n hn => by
        simp only [List.mem_cons, List.not_mem_nil, or_false] at hn
        show n ≤ 1099511627776
        rcases hn with rfl | rfl | rfl
        · omega
        · exact h2.2
        · exact h3.2)]
      simp only []
      rw [if_pos h1.2]
    · cases h
  · rename_i hc
    rw [if_neg hc]
    split at h
    · rename_i hc2
      rw [if_pos hc2]
      split at h
      · rename_i n hn
        have e := Option.some.inj h
        subst e
        simp only [] at e1 e2 e3 e4
        have hmem : n ∈ T'.ses := e4.subset (List.mem_append_right _ (List.mem_singleton.2 rfl))
        have h1 := hs.ses n hmem
        rw [e2] at h1
        have hlen := e4.length_le
        rw [List.length_append, List.length_singleton] at hlen
        have hl8 := hs.slen
        have hls := hs.ls
        rw [e2] at hls
        rw [numsP_less (m := mId) hn (fun k hk => by rw [List.mem_singleton.1 hk]; omega)]
        simp only []
        have hasc := (ascI_snoc.1 (asc_pre e4 hs.asc)).2
        rw [if_pos]
        unfold sesB
        simp only [Bool.and_eq_true, decide_eq_true_eq]
        refine ⟨⟨⟨h1.1, h1.2⟩, by omega⟩, ?_⟩
        split
        · rename_i k hk
          exact decide_eq_true (hasc k (List.mem_of_getLast? hk))
        · rfl
      · cases h
    · rename_i hc2
      rw [if_neg hc2]
      split at h
      · rename_i hc3
        rw [if_pos hc3]
        split at h
        · rename_i a b c hn
          have e := Option.some.inj h
          subst e
          simp only [] at e1 e2 e3 e4 e5 e6
          have hmem := e5.subset (List.mem_append_right _ (List.mem_singleton.2 rfl))
          have h1 := hs.lea _ hmem
          obtain ⟨g1, g2, g3, g4, g5, g6⟩ := h1
          rw [e6 (by simp)] at g2
          rw [e3] at g4
          rw [e1] at g5 g6
          simp only [] at g1 g2 g3 g4 g5 g6
          have hlen := e5.length_le
          rw [List.length_append, List.length_singleton] at hlen
          have hl16 := hs.llen
          have hlf := hs.lf
          have hnw := hs.now
          have hg2 := hs.ses a (by rw [e6 (by simp)]; exact g2)
          have hls := hs.ls
          rw [e3] at hlf
          rw [e1] at hnw
          have hnw2 : T.now ≤ 10378368000 := hnw.2
          rw [numsP_less (m := mId) hn (fun k hk => by
            simp only [List.mem_cons, List.not_mem_nil, or_false] at hk
            rcases hk with rfl | rfl | rfl
            · omega
            · omega
            · show k ≤ 1099511627776
              omega)]
          simp only []
          rw [if_pos]
          refine ⟨g1, by omega, ?_⟩
          obtain ⟨r, hr⟩ := e5
          have hord := (ascR_snoc.1 (ascR_pre ⟨r, hr⟩ hs.ord)).2
          have hfen : (T.lea ++ [(⟨W.getD 1 [], a, b, c⟩ : Ls)]).Pairwise fun x y => x.fen ≠ y.fen := by
            have := hs.fen
            rw [← hr] at this
            exact (List.pairwise_append.1 this).1
          unfold leaB
          simp only [Bool.and_eq_true, decide_eq_true_eq, List.all_eq_true]
          refine ⟨⟨?_, ⟨⟨⟨g2, g3⟩, g4⟩, g5⟩, g6⟩, fun y hy => ?_⟩
          · split
            · rename_i y hy
              exact decide_eq_true (hord y (List.mem_of_getLast? hy))
            · rfl
          · exact (List.pairwise_append.1 hfen).2.2 y hy _ (List.mem_singleton.2 rfl)
        · cases h
      · cases h
theorem lns_snd : ∀ {L : List (List UInt8)} {i : Nat} {T T' : Tb}, 0 < i → lnsR i L T = some T' → Snd T' → lnsT i L T = some T'
  | [], i, T, T', _, h, _ => h
  | l :: r, i, T, T', hi, h, hs => by
    unfold lnsR at h
    unfold lnsT
    split at h
    · rename_i T1 h1
      rw [step_snd h1 (lns_ext (Nat.succ_pos i) h) hs]
      exact lns_snd (Nat.succ_pos i) h hs
    · cases h
theorem lns_snd0 {l : List UInt8} {r : List (List UInt8)} {T T' : Tb} (h : lnsR 0 (l :: r) T = some T') (hs : Snd T') : lnsT 0 (l :: r) T = some T' := by
  unfold lnsR at h
  unfold lnsT
  split at h
  · rename_i T1 h1
    rw [step_snd h1 (lns_ext (Nat.succ_pos 0) h) hs]
    exact lns_snd (Nat.succ_pos 0) h hs
  · cases h
/-! what is accepted is sound, and is the text of its table -/
theorem join_two (a b : List UInt8) (r : List (List UInt8)) (sep : List UInt8) : Lib.join (a :: b :: r) sep = a ++ sep ++ Lib.join (b :: r) sep := by
  simp [Lib.join, List.intercalate, List.intersperse]
theorem join_add (c b : UInt8) : ∀ ws : List (List UInt8), ws ≠ [] → Lib.join (addW b ws) [c] = b :: Lib.join ws [c]
  | [], h => absurd rfl h
  | [w], _ => by show Lib.join [b :: w] [c] = b :: Lib.join [w] [c]; rw [Lib.join_one, Lib.join_one]
  | w :: v :: r, _ => by show Lib.join ((b :: w) :: v :: r) [c] = b :: Lib.join (w :: v :: r) [c]; rw [join_two, join_two]; rfl
theorem wordsC_ne (c : UInt8) : ∀ s : List UInt8, wordsC c s ≠ []
  | [] => by simp [wordsC]
  | b :: r => by
    rw [wordsC]
    split
    · simp
    · cases h : wordsC c r with
      | nil => simp [addW]
      | cons w ws => simp [addW]
theorem join_words (c : UInt8) : ∀ s : List UInt8, Lib.join (wordsC c s) [c] = s
  | [] => by simp [wordsC, Lib.join_one]
  | b :: r => by
    have ih := join_words c r
    rw [wordsC]
    split
    · rename_i hb
      cases hw : wordsC c r with
      | nil => exact absurd hw (wordsC_ne c r)
      | cons w ws =>
        rw [join_two, ← hw, ih, hb]
        rfl
    · rw [join_add c b _ (wordsC_ne c r), ih]
theorem words_line {w0 : List UInt8} {ns : List Int} : Lib.join (w0 :: ns.map Lib.itoa) [32] = w0 ++ numsT ns := by
  rw [Lib.join_cons]
  unfold Lib.joinTail numsT
  rw [List.map_map, List.flatMap_def]
  rfl
/-- The lines, each with its end. -/
def linesX (L : List (List UInt8)) : List UInt8 := L.flatMap fun l => l ++ [10]
theorem join_lines : ∀ ws : List (List UInt8), ws ≠ [] → Lib.join ws [10] ++ [10] = linesX ws
  | [], h => absurd rfl h
  | [w], _ => by rw [Lib.join_one]; simp [linesX]
  | w :: v :: r, _ => by
    have ih := join_lines (v :: r) (by simp)
    rw [join_two]
    unfold linesX at *
    rw [List.flatMap_cons, ← ih]
    simp
theorem text_lines {s : List UInt8} (h : s.getLast? = some 10) : s = linesX (wordsC 10 s.dropLast) := by
  obtain ⟨M, rfl⟩ := List.getLast?_eq_some_iff.1 h
  rw [List.dropLast_concat, ← join_lines _ (wordsC_ne 10 M), join_words]
theorem head_drop {W : List (List UInt8)} {a : List UInt8} (h : W.head? = some a) : W = a :: W.drop 1 := by
  cases W with
  | nil => cases h
  | cons x r => have e : x = a := Option.some.inj h; subst e; rfl
theorem step_first {l : List UInt8} {T1 : Tb} (h : stepT 0 (wordsC 32 l) tb0 = some T1) : textT T1 = l ++ [10] ∧ Snd T1 := by
  unfold stepT at h
  split at h
  · rename_i hc
    split at h
    · rename_i a b c hn
      split at h
      · rename_i ha
        have e := Option.some.inj h
        subst e
        obtain ⟨k1, k2⟩ := numsP_some hn
        have e1 := head_drop hc.2.1
        rw [k1] at e1
        have e2 := join_words 32 l
        rw [e1, words_line] at e2
        have q1 := k2 a (by simp)
        have q2 := k2 b (by simp)
        have q3 := k2 c (by simp)
        refine ⟨?_, ⟨⟨q1.1, ha⟩, q2, q3, by simp [tb0], by simp [tb0], fun n hn => (by cases hn), trivial, fun x hx => (by cases hx), trivial, List.Pairwise.nil⟩⟩
        show lineT locksW [a, b, c] ++ textS [] ++ textL [] = _
        rw [← e2]
        simp [lineT, textS, textL]
      · cases h
    · cases h
  · rw [if_neg (by omega), if_neg (by omega)] at h
    cases h
theorem step_next {i : Nat} {l : List UInt8} {T T1 : Tb} (hi : 0 < i) (h : stepT i (wordsC 32 l) T = some T1) (hs : Snd T) : textT T1 = textT T ++ (l ++ [10]) ∧ Snd T1 := by
  have e2 := join_words 32 l
  unfold stepT at h
  rw [if_neg (by omega)] at h
  split at h
  · rename_i hc
    split at h
    · rename_i n hn
      split at h
      · rename_i hb
        have e := Option.some.inj h
        subst e
        obtain ⟨k1, k2⟩ := numsP_some hn
        have e1 := head_drop hc.2.1
        rw [k1] at e1
        rw [e1, words_line] at e2
        unfold sesB at hb
        simp only [Bool.and_eq_true, decide_eq_true_eq] at hb
        obtain ⟨⟨⟨b1, b2⟩, b3⟩, b4⟩ := hb
        have hl : T.lea = [] := hc.2.2.2
        have hgt : ∀ k ∈ T.ses, k < n := by
          intro k hk
          cases hg : T.ses.getLast? with
          | none => rw [List.getLast?_eq_none_iff.1 hg] at hk; cases hk
          | some z =>
            rw [hg] at b4
            have b4 : z < n := of_decide_eq_true b4
            have := last_max hs.asc hg k hk
            omega
        refine ⟨?_, ⟨hs.now, hs.ls, hs.lf, by simp; omega, hs.llen, fun k hk => ?_, ascI_snoc.2 ⟨hs.asc, hgt⟩, fun x hx => ?_, hs.ord, hs.fen⟩⟩
        · show lineT locksW [T.now, T.ls, T.lf] ++ textS (T.ses ++ [n]) ++ textL T.lea = lineT locksW [T.now, T.ls, T.lf] ++ textS T.ses ++ textL T.lea ++ (l ++ [10])
          rw [hl, ← e2]
          simp [textS, textL, lineT]
        · rcases List.mem_append.1 hk with hk | hk
          · exact hs.ses k hk
          · rw [List.mem_singleton.1 hk]; exact ⟨b1, b2⟩
        · have hx : x ∈ T.lea := hx
          rw [hl] at hx
          cases hx
      · cases h
    · cases h
  · split at h
    · rename_i hc
      split at h
      · rename_i a b c hn
        split at h
        · rename_i hb
          have e := Option.some.inj h
          subst e
          obtain ⟨k1, k2⟩ := numsP_some hn
          have e1 := head_drop hc.2.1
          obtain ⟨r, W2, hW⟩ : ∃ r W2, (wordsC 32 l).drop 1 = r :: W2 := by
            cases hd : (wordsC 32 l).drop 1 with
            | nil =>
              have := congrArg List.length hd
              rw [List.length_drop, hc.2.2] at this
              cases this
            | cons r W2 => exact ⟨r, W2, rfl⟩
          rw [hW] at e1
          have e3 : (wordsC 32 l).getD 1 [] = r := by rw [e1]; rfl
          have e4 : (wordsC 32 l).drop 2 = W2 := by rw [e1]; rfl
          rw [e4] at k1
          rw [e3] at hb ⊢
          rw [e1, k1, join_two, words_line] at e2
          obtain ⟨b0, b1, b2⟩ := hb
          unfold leaB at b2
          simp only [Bool.and_eq_true, decide_eq_true_eq, List.all_eq_true] at b2
          obtain ⟨⟨g1, ⟨⟨⟨g2, g3⟩, g4⟩, g5⟩, g6⟩, g7⟩ := b2
          have hgt : ∀ y ∈ T.lea, cmpB y.reel r < 0 := by
            intro y hy
            cases hg : T.lea.getLast? with
            | none => rw [List.getLast?_eq_none_iff.1 hg] at hy; cases hy
            | some z =>
              rw [hg] at g1
              exact last_maxR hs.ord hg (of_decide_eq_true g1) y hy
          refine ⟨?_, ⟨hs.now, hs.ls, hs.lf, hs.slen, by simp; omega, hs.ses, hs.asc, fun x hx => ?_, ascR_snoc.2 ⟨hs.ord, hgt⟩, ?_⟩⟩
          · show lineT locksW [T.now, T.ls, T.lf] ++ textS T.ses ++ textL (T.lea ++ [⟨r, a, b, c⟩]) = lineT locksW [T.now, T.ls, T.lf] ++ textS T.ses ++ textL T.lea ++ (l ++ [10])
            rw [← e2]
            simp [textL, lineT, leaseW, leaW]
          · rcases List.mem_append.1 hx with hx | hx
            · exact hs.lea x hx
            · rw [List.mem_singleton.1 hx]; exact ⟨b0, g2, g3, g4, g5, g6⟩
          · refine List.pairwise_append.2 ⟨hs.fen, List.pairwise_singleton .., fun x hx y hy => ?_⟩
            rw [List.mem_singleton.1 hy]
            exact g7 x hx
        · cases h
      · cases h
    · cases h
theorem lns_text : ∀ {L : List (List UInt8)} {i : Nat} {T T1 : Tb}, 0 < i → lnsT i L T = some T1 → Snd T → textT T1 = textT T ++ linesX L ∧ Snd T1
  | [], i, T, T1, _, h, hs => by
    have e : T = T1 := Option.some.inj h
    subst e
    exact ⟨by simp [linesX], hs⟩
  | l :: r, i, T, T1, hi, h, hs => by
    unfold lnsT at h
    split at h
    · rename_i T2 h2
      obtain ⟨k1, k2⟩ := step_next hi h2 hs
      obtain ⟨m1, m2⟩ := lns_text (Nat.succ_pos i) h k2
      exact ⟨by rw [m1, k1]; simp [linesX], m2⟩
    · cases h
theorem parT_text {s : List UInt8} {T : Tb} (h : parT s = some T) : textT T = s ∧ Snd T := by
  unfold parT at h
  split at h
  · rename_i hl
    rw [text_lines hl]
    cases hw : wordsC 10 s.dropLast with
    | nil => exact absurd hw (wordsC_ne _ _)
    | cons l r =>
      rw [hw] at h
      unfold lnsT at h
      split at h
      · rename_i T2 h2
        obtain ⟨k1, k2⟩ := step_first h2
        obtain ⟨m1, m2⟩ := lns_text (Nat.succ_pos 0) h k2
        exact ⟨by rw [m1, k1]; simp [linesX], m2⟩
      · cases h
  · cases h
/-- The reference's answer: the form, then whether the table is sound. -/
theorem ref_some {s : List UInt8} {T : Tb} (hl : s.getLast? = some 10) (h : lnsR 0 (wordsC 10 s.dropLast) tb0 = some T) (hs : Snd T) : parT s = some T := by
  unfold parT
  rw [if_pos hl]
  cases hw : wordsC 10 s.dropLast with
  | nil => exact absurd hw (wordsC_ne _ _)
  | cons l r =>
    rw [hw] at h
    exact lns_snd0 h hs
theorem ref_of {s : List UInt8} {T : Tb} (h : parT s = some T) : s.getLast? = some 10 ∧ lnsR 0 (wordsC 10 s.dropLast) tb0 = some T ∧ Snd T := by
  have hs := (parT_text h).2
  unfold parT at h
  split at h
  · rename_i hl
    exact ⟨hl, lns_ref h, hs⟩
  · cases h
end Go.Proofs.YtneiljaknmeagaaGreatDoor
