/-
  Sets of spans, plain and in memory. The conditions of the contracts are their hypotheses.
-/
import Derived.Test.YtmopjhbfobmklaaGreatDoorMBa
set_option maxRecDepth 100000
set_option maxHeartbeats 40000000
namespace Go.Proofs.YtmopjhbfobmklaaGreatDoor
set_option linter.unusedVariables false
set_option linter.unusedSimpArgs false
structure Spn where
 i : Int
 o : Int
deriving DecidableEq
def Spn.has (s : Spn) (n : Int) : Prop := s.i ≤ n ∧ n < s.o
instance (s : Spn) (n : Int) : Decidable (s.has n) := inferInstanceAs (Decidable (_ ∧ _))
def MemS (n : Int) (L : List Spn) : Prop := ∃ s ∈ L, s.has n
theorem memS_nil {n : Int} : ¬ MemS n [] := by rintro ⟨s, h, _⟩; cases h
theorem memS_cons {n : Int} {s : Spn} {L : List Spn} : MemS n (s :: L) ↔ s.has n ∨ MemS n L := by
 constructor
 ·rintro ⟨t, h, ht⟩
  rcases List.mem_cons.1 h with rfl | h
  ·exact .inl ht
  exact .inr ⟨t, h, ht⟩
 rintro (h | ⟨t, h, ht⟩)
 ·exact ⟨s, List.mem_cons_self .., h⟩
 exact ⟨t, List.mem_cons_of_mem _ h, ht⟩
theorem memS_append {n : Int} {L M : List Spn} : MemS n (L ++ M) ↔ MemS n L ∨ MemS n M := by
 constructor
 ·rintro ⟨t, h, ht⟩
  rcases List.mem_append.1 h with h | h
  ·exact .inl ⟨t, h, ht⟩
  exact .inr ⟨t, h, ht⟩
 rintro (⟨t, h, ht⟩ | ⟨t, h, ht⟩)
 ·exact ⟨t, List.mem_append_left _ h, ht⟩
 exact ⟨t, List.mem_append_right _ h, ht⟩
def Can : List Spn → Prop
 | [] => True
 | s :: L => s.i < s.o ∧ (∀ t ∈ L, s.o < t.i) ∧ Can L
theorem can_pos {L : List Spn} (h : Can L) : ∀ s ∈ L, s.i < s.o := by
 induction L with
 | nil => intro s hs; cases hs
 | cons a L ih =>
  intro s hs
  rcases List.mem_cons.1 hs with rfl | hs
  ·exact h.1
  exact ih h.2.2 s hs
theorem can_eq : ∀ {L M : List Spn}, Can L → Can M → (∀ n, MemS n L ↔ MemS n M) → L = M
 | [], [], _, _, _ => rfl
 | [], t :: M, _, hm, h => absurd ((h t.i).2 ⟨t, List.mem_cons_self .., Int.le_refl _, hm.1⟩) memS_nil
 | s :: L, [], hl, _, h => absurd ((h s.i).1 ⟨s, List.mem_cons_self .., Int.le_refl _, hl.1⟩) memS_nil
 | s :: L, t :: M, hl, hm, h => by
  have low : ∀ {a : Spn} {K : List Spn} {n : Int}, Can (a :: K) → MemS n (a :: K) → a.i ≤ n := by
   intro a K n hc hn
   rcases memS_cons.1 hn with hn | ⟨u, hu, h1, h2⟩
   ·exact hn.1
   have := hc.2.1 u hu
   have := hc.1
   omega
  have ei : s.i = t.i := by
   have h1 := low hm ((h s.i).1 ⟨s, List.mem_cons_self .., Int.le_refl _, hl.1⟩)
   have h2 := low hl ((h t.i).2 ⟨t, List.mem_cons_self .., Int.le_refl _, hm.1⟩)
   omega
  have top : ∀ {a b : Spn} {K J : List Spn}, Can (a :: K) → Can (b :: J) → a.i = b.i → (∀ n, MemS n (b :: J) → MemS n (a :: K)) → b.o ≤ a.o := by
   intro a b K J ha hb hab hh
   apply Int.not_lt.1
   intro hlt
   rcases memS_cons.1 (hh a.o ⟨b, List.mem_cons_self .., by have := ha.1; omega, hlt⟩) with hn | ⟨u, hu, h1, h2⟩
   ·have := hn.2; omega
   have := ha.2.1 u hu; omega
  have eo : s.o = t.o := by
   have h1 := top hl hm ei (fun n hn => (h n).2 hn)
   have h2 := top hm hl ei.symm (fun n hn => (h n).1 hn)
   omega
  have est : s = t := by cases s; cases t; simp at ei eo; rw [ei, eo]
  subst est
  have tail : ∀ {K J : List Spn}, Can (s :: K) → (∀ n, MemS n (s :: K) → MemS n (s :: J)) → ∀ n, MemS n K → MemS n J := by
   intro K J hk hh n hn
   rcases memS_cons.1 (hh n (memS_cons.2 (.inr hn))) with h1 | h1
   ·obtain ⟨u, hu, h2, h3⟩ := hn
    have := hk.2.1 u hu
    have := h1.2
    omega
   exact h1
  rw [can_eq hl.2.2 hm.2.2 (fun n => ⟨tail hl (fun n hn => (h n).1 hn) n, tail hm (fun n hn => (h n).2 hn) n⟩)]
theorem can_append : ∀ {L M : List Spn}, Can L → Can M → (∀ s ∈ L, ∀ t ∈ M, s.o < t.i) → Can (L ++ M)
 | [], M, _, hm, _ => hm
 | s :: L, M, hl, hm, h => by
  refine ⟨hl.1, fun t ht => ?_, can_append hl.2.2 hm (fun a ha => h a (List.mem_cons_of_mem _ ha))⟩
  rcases List.mem_append.1 ht with ht | ht
  ·exact hl.2.1 t ht
  exact h s (List.mem_cons_self ..) t ht
def stp (out : List Spn) (s : Spn) : List Spn :=
 if s.i < s.o then
  match out with
  | [] => [s]
  | l :: r => if s.i ≤ l.o then ⟨l.i, max l.o s.o⟩ :: r else s :: l :: r
 else out
def mrg (L : List Spn) : List Spn := (L.foldl stp []).reverse
def CanR : List Spn → Prop
 | [] => True
 | s :: L => s.i < s.o ∧ (∀ t ∈ L, t.o < s.i) ∧ CanR L
theorem canR_rev : ∀ {L : List Spn}, CanR L → Can L.reverse
 | [], _ => trivial
 | s :: L, h => by
  rw [List.reverse_cons]
  refine can_append (canR_rev h.2.2) ⟨h.1, (fun t ht => by cases ht), trivial⟩ (fun a ha t ht => ?_)
  rcases List.mem_singleton.1 ht with rfl
  exact h.2.1 a (List.mem_reverse.1 ha)
theorem stp_can {out : List Spn} {s : Spn} (h : CanR out) (hs : ∀ t ∈ out, t.i ≤ s.i) : CanR (stp out s) := by
 unfold stp
 split
 ·rename_i hlt
  cases out with
  | nil => exact ⟨hlt, (fun t ht => by cases ht), trivial⟩
  | cons l r =>
   simp only []
   split
   ·rename_i hle
    refine ⟨?_, h.2.1, h.2.2⟩
    have := h.1
    show l.i < max l.o s.o
    omega
   rename_i hle
   refine ⟨hlt, fun t ht => ?_, h⟩
   rcases List.mem_cons.1 ht with rfl | ht
   ·omega
   have := h.2.1 t ht
   have := hs l (List.mem_cons_self ..)
   have := h.1
   omega
 exact h
theorem stp_low {out : List Spn} {s : Spn} {k : Int} (h : ∀ t ∈ out, t.i ≤ k) (hs : s.i ≤ k) : ∀ t ∈ stp out s, t.i ≤ k := by
 unfold stp
 split
 ·cases out with
  | nil => intro t ht; rcases List.mem_singleton.1 ht with rfl; exact hs
  | cons l r =>
   simp only []
   split
   ·intro t ht
    rcases List.mem_cons.1 ht with rfl | ht
    ·exact h l (List.mem_cons_self ..)
    exact h t (List.mem_cons_of_mem _ ht)
   intro t ht
   rcases List.mem_cons.1 ht with rfl | ht
   ·exact hs
   exact h t ht
 exact h
theorem stp_mem {out : List Spn} {s : Spn} (h : CanR out) (hs : ∀ t ∈ out, t.i ≤ s.i) (n : Int) : MemS n (stp out s) ↔ MemS n out ∨ s.has n := by
 unfold stp
 split
 ·rename_i hlt
  cases out with
  | nil => rw [memS_cons]; constructor <;> (rintro (h | h); exact .inr h; exact .inl h)
  | cons l r =>
   have h0 := hs l (List.mem_cons_self ..)
   simp only []
   split
   ·rename_i hle
    rw [memS_cons, memS_cons]
    unfold Spn.has
    simp only []
    constructor
    ·rintro (⟨h1, h2⟩ | h1)
     ·by_cases h3 : n < l.o
      ·exact .inl (.inl ⟨h1, h3⟩)
      exact .inr ⟨by omega, by omega⟩
     exact .inl (.inr h1)
    rintro ((⟨h1, h2⟩ | h1) | ⟨h1, h2⟩)
    ·exact .inl ⟨h1, by omega⟩
    ·exact .inr h1
    exact .inl ⟨by omega, by omega⟩
   rw [memS_cons]
   constructor <;> (rintro (h | h); exact .inr h; exact .inl h)
 rename_i hlt
 constructor
 ·exact .inl
 rintro (h1 | h1)
 ·exact h1
 exfalso
 have := h1.1
 have := h1.2
 omega
def Srt : List Spn → Prop
 | [] => True
 | s :: L => (∀ t ∈ L, s.i ≤ t.i) ∧ Srt L
theorem foldl_stp : ∀ {L out : List Spn}, Srt L → CanR out → (∀ t ∈ out, ∀ s ∈ L, t.i ≤ s.i) → CanR (L.foldl stp out) ∧ ∀ n, MemS n (L.foldl stp out) ↔ MemS n out ∨ MemS n L
 | [], out, _, hc, _ => ⟨hc, fun n => ⟨.inl, fun h => h.elim id (fun h => absurd h memS_nil)⟩⟩
 | s :: L, out, hs, hc, ho => by
  have h1 : ∀ t ∈ out, t.i ≤ s.i := fun t ht => ho t ht s (List.mem_cons_self ..)
  obtain ⟨h2, h3⟩ := foldl_stp (L := L) hs.2 (stp_can hc h1) (fun t ht u hu => stp_low (k := u.i) (fun t ht => ho t ht u (List.mem_cons_of_mem _ hu)) (hs.1 u hu) t ht)
  refine ⟨h2, fun n => ?_⟩
  rw [List.foldl_cons, h3, stp_mem hc h1, memS_cons, or_assoc]
theorem mrg_can {L : List Spn} (h : Srt L) : Can (mrg L) := canR_rev (foldl_stp (out := []) h trivial (fun t ht => by cases ht)).1
theorem memS_reverse {n : Int} {L : List Spn} : MemS n L.reverse ↔ MemS n L := by
 unfold MemS
 simp only [List.mem_reverse]
theorem mrg_mem {L : List Spn} (h : Srt L) (n : Int) : MemS n (mrg L) ↔ MemS n L := by
 unfold mrg
 rw [memS_reverse, (foldl_stp (out := []) h trivial (fun t ht => by cases ht)).2]
 exact ⟨fun h => h.elim (fun h => absurd h memS_nil) id, .inr⟩
theorem mrg_one {L M : List Spn} (hl : Srt L) (hm : Srt M) (h : ∀ n, MemS n L ↔ MemS n M) : mrg L = mrg M :=
 can_eq (mrg_can hl) (mrg_can hm) (fun n => by rw [mrg_mem hl, mrg_mem hm, h])
theorem memS_perm {L M : List Spn} (h : L.Perm M) (n : Int) : MemS n L ↔ MemS n M := by
 unfold MemS
 simp only [h.mem_iff]
def putS (L : List Spn) (s : Spn) : List Spn := L.takeWhile (fun t => decide (t.i ≤ s.i)) ++ s :: L.dropWhile (fun t => decide (t.i ≤ s.i))
theorem putS_mem (L : List Spn) (s : Spn) (n : Int) : MemS n (putS L s) ↔ MemS n L ∨ s.has n := by
 unfold putS
 rw [memS_append, memS_cons]
 have := List.takeWhile_append_dropWhile (p := fun t : Spn => decide (t.i ≤ s.i)) (l := L)
 conv => rhs; rw [← this, memS_append]
 constructor
 ·rintro (h | h | h)
  ·exact .inl (.inl h)
  ·exact .inr h
  exact .inl (.inr h)
 rintro ((h | h) | h)
 ·exact .inl h
 ·exact .inr (.inr h)
 exact .inr (.inl h)
theorem putS_of (s : Spn) : ∀ t L, putS (t :: L) s = if t.i ≤ s.i then t :: putS L s else s :: t :: L := by
 intro t L
 unfold putS
 by_cases h : t.i ≤ s.i
 ·simp [h]
 simp [h]
theorem putS_srt (s : Spn) : ∀ {L : List Spn}, Srt L → Srt (putS L s)
 | [], _ => ⟨(fun t ht => by cases ht), trivial⟩
 | t :: L, h => by
  rw [putS_of]
  split
  ·rename_i hle
   refine ⟨fun u hu => ?_, putS_srt s h.2⟩
   have hu : u ∈ L.takeWhile (fun t => decide (t.i ≤ s.i)) ++ s :: L.dropWhile (fun t => decide (t.i ≤ s.i)) := hu
   rcases List.mem_append.1 hu with hu | hu
   ·exact h.1 u (List.takeWhile_sublist _ |>.mem hu)
   rcases List.mem_cons.1 hu with rfl | hu
   ·exact hle
   exact h.1 u (List.dropWhile_sublist _ |>.mem hu)
  rename_i hle
  refine ⟨fun u hu => ?_, h⟩
  rcases List.mem_cons.1 hu with rfl | hu
  ·omega
  have := h.1 u hu
  omega
def srtR (L : List Spn) : List Spn := L.foldl (fun out s => if s.i < s.o then putS out s else out) []
theorem foldl_put : ∀ (L out : List Spn), Srt out → Srt (L.foldl (fun out s => if s.i < s.o then putS out s else out) out) ∧ ∀ n, MemS n (L.foldl (fun out s => if s.i < s.o then putS out s else out) out) ↔ MemS n out ∨ MemS n L
 | [], out, h => ⟨h, fun n => ⟨.inl, fun h => h.elim id (fun h => absurd h memS_nil)⟩⟩
 | s :: L, out, h => by
  rw [List.foldl_cons]
  by_cases hlt : s.i < s.o
  ·rw [if_pos hlt]
   obtain ⟨h1, h2⟩ := foldl_put L (putS out s) (putS_srt s h)
   refine ⟨h1, fun n => ?_⟩
   rw [h2, putS_mem, memS_cons, or_assoc]
  rw [if_neg hlt]
  obtain ⟨h1, h2⟩ := foldl_put L out h
  refine ⟨h1, fun n => ?_⟩
  rw [h2, memS_cons]
  constructor
  ·rintro (h | h)
   ·exact .inl h
   exact .inr (.inr h)
  rintro (h | h | h)
  ·exact .inl h
  ·exfalso
   have := h.1
   have := h.2
   omega
  exact .inr h
theorem srtR_srt (L : List Spn) : Srt (srtR L) := (foldl_put L [] trivial).1
theorem srtR_mem (L : List Spn) (n : Int) : MemS n (srtR L) ↔ MemS n L := by
 unfold srtR
 rw [(foldl_put L [] trivial).2]
 exact ⟨fun h => h.elim (fun h => absurd h memS_nil) id, .inr⟩
def joinS (L : List Spn) : List Spn := mrg (srtR L)
theorem joinS_can (L : List Spn) : Can (joinS L) := mrg_can (srtR_srt L)
theorem joinS_mem (L : List Spn) (n : Int) : MemS n (joinS L) ↔ MemS n L := by
 unfold joinS
 rw [mrg_mem (srtR_srt L), srtR_mem]
theorem joinS_of {L M : List Spn} (hm : Srt M) (h : ∀ n, MemS n M ↔ MemS n L) : mrg M = joinS L :=
 mrg_one hm (srtR_srt L) (fun n => by rw [h, srtR_mem])
def cutS (s t : Spn) : Spn := ⟨max s.i t.i, min s.o t.o⟩
def comS (A B : List Spn) : List Spn := A.flatMap fun s => (B.map (cutS s)).filter fun t => decide (t.i < t.o)
theorem cutS_has (s t : Spn) (n : Int) : (cutS s t).has n ↔ s.has n ∧ t.has n := by
 unfold cutS Spn.has
 simp only []
 omega
theorem comS_mem (A B : List Spn) (n : Int) : MemS n (comS A B) ↔ MemS n A ∧ MemS n B := by
 unfold comS MemS
 constructor
 ·rintro ⟨u, hu, hn⟩
  rw [List.mem_flatMap] at hu
  obtain ⟨s, hs, hu⟩ := hu
  obtain ⟨hu, _⟩ := List.mem_filter.1 hu
  obtain ⟨t, ht, rfl⟩ := List.mem_map.1 hu
  obtain ⟨h1, h2⟩ := (cutS_has s t n).1 hn
  exact ⟨⟨s, hs, h1⟩, t, ht, h2⟩
 rintro ⟨⟨s, hs, h1⟩, t, ht, h2⟩
 have h3 := (cutS_has s t n).2 ⟨h1, h2⟩
 refine ⟨cutS s t, ?_, h3⟩
 rw [List.mem_flatMap]
 refine ⟨s, hs, List.mem_filter.2 ⟨List.mem_map_of_mem ht, ?_⟩⟩
 have := h3.1
 have := h3.2
 simp only [decide_eq_true_eq]
 omega
theorem can_cut (s : Spn) : ∀ {B : List Spn}, Can B → Can ((B.map (cutS s)).filter fun t => decide (t.i < t.o))
 | [], _ => trivial
 | t :: B, h => by
  rw [List.map_cons, List.filter_cons]
  split
  ·rename_i hlt
   refine ⟨by simpa using hlt, fun u hu => ?_, can_cut s h.2.2⟩
   obtain ⟨hu, _⟩ := List.mem_filter.1 hu
   obtain ⟨v, hv, rfl⟩ := List.mem_map.1 hu
   have := h.2.1 v hv
   show min s.o t.o < max s.i v.i
   omega
  exact can_cut s h.2.2
theorem comS_can : ∀ {A B : List Spn}, Can A → Can B → Can (comS A B)
 | [], _, _, _ => trivial
 | s :: A, B, ha, hb => by
  show Can (((B.map (cutS s)).filter fun t => decide (t.i < t.o)) ++ comS A B)
  refine can_append (can_cut s hb) (comS_can ha.2.2 hb) (fun u hu v hv => ?_)
  obtain ⟨hu, _⟩ := List.mem_filter.1 hu
  obtain ⟨t, ht, rfl⟩ := List.mem_map.1 hu
  unfold comS at hv
  rw [List.mem_flatMap] at hv
  obtain ⟨s', hs', hv⟩ := hv
  obtain ⟨hv, _⟩ := List.mem_filter.1 hv
  obtain ⟨t', ht', rfl⟩ := List.mem_map.1 hv
  have := ha.2.1 s' hs'
  show min s.o t.o < max s'.i t'.i
  omega
def rstS (top : Int) : Int → List Spn → List Spn
 | a, [] => [⟨a, top⟩]
 | a, s :: L => if a < s.i then ⟨a, s.i⟩ :: rstS top s.o L else rstS top s.o L
def InS (top : Int) (L : List Spn) : Prop := ∀ s ∈ L, s.o < top
theorem rstS_low : ∀ (top a : Int) {L : List Spn}, Can L → (∀ s ∈ L, a ≤ s.i) → ∀ t ∈ rstS top a L, a ≤ t.i
 | top, a, [], _, _, t, ht => by
  rcases List.mem_singleton.1 ht with rfl
  exact Int.le_refl _
 | top, a, s :: L, hc, ha, t, ht => by
  have h0 := ha s (List.mem_cons_self ..)
  have h1 := hc.1
  have hh : ∀ u ∈ rstS top s.o L, a ≤ u.i := fun u hu => by
   have := rstS_low top s.o hc.2.2 (fun v hv => by have := hc.2.1 v hv; omega) u hu
   omega
  unfold rstS at ht
  split at ht
  ·rcases List.mem_cons.1 ht with rfl | ht
   ·exact Int.le_refl _
   exact hh t ht
  exact hh t ht
theorem rstS_can : ∀ (top a : Int) {L : List Spn}, Can L → (∀ s ∈ L, a ≤ s.i) → InS top L → a < top → Can (rstS top a L)
 | top, a, [], _, _, _, ht => ⟨ht, (fun t ht => by cases ht), trivial⟩
 | top, a, s :: L, hc, ha, hi, ht => by
  have h0 := ha s (List.mem_cons_self ..)
  have h1 := hc.1
  have ih := rstS_can top s.o hc.2.2 (fun v hv => by have := hc.2.1 v hv; omega) (fun v hv => hi v (List.mem_cons_of_mem _ hv)) (hi s (List.mem_cons_self ..))
  unfold rstS
  split
  ·rename_i hlt
   refine ⟨hlt, fun u hu => ?_, ih⟩
   have := rstS_low top s.o hc.2.2 (fun v hv => by have := hc.2.1 v hv; omega) u hu
   show s.i < u.i
   omega
  exact ih
theorem rstS_mem : ∀ (top a : Int) {L : List Spn}, Can L → (∀ s ∈ L, a ≤ s.i) → InS top L → ∀ n, MemS n (rstS top a L) ↔ (a ≤ n ∧ n < top ∧ ¬ MemS n L)
 | top, a, [], _, _, _, n => by
  unfold rstS
  rw [memS_cons]
  constructor
  ·rintro (h | h)
   ·exact ⟨h.1, h.2, memS_nil⟩
   exact absurd h memS_nil
  rintro ⟨h1, h2, _⟩
  exact .inl ⟨h1, h2⟩
 | top, a, s :: L, hc, ha, hi, n => by
  have h0 := ha s (List.mem_cons_self ..)
  have h1 := hc.1
  have h2 := hi s (List.mem_cons_self ..)
  have ih := rstS_mem top s.o hc.2.2 (fun v hv => by have := hc.2.1 v hv; omega) (fun v hv => hi v (List.mem_cons_of_mem _ hv)) n
  have key : MemS n L → s.o < n + 1 := by
   rintro ⟨u, hu, h3, h4⟩
   have := hc.2.1 u hu
   omega
  unfold rstS
  split
  ·rename_i hlt
   rw [memS_cons, ih, memS_cons]
   unfold Spn.has
   simp only []
   constructor
   ·rintro (⟨h3, h4⟩ | ⟨h3, h4, h5⟩)
    ·refine ⟨h3, by omega, ?_⟩
     rintro (h | h)
     ·omega
     have := key h
     omega
    refine ⟨by omega, h4, ?_⟩
    rintro (h | h)
    ·omega
    exact h5 h
   rintro ⟨h3, h4, h5⟩
   by_cases h6 : n < s.i
   ·exact .inl ⟨h3, h6⟩
   refine .inr ⟨?_, h4, fun h => h5 (.inr h)⟩
   apply Int.not_lt.1
   intro h7
   exact h5 (.inl ⟨by omega, h7⟩)
  rename_i hlt
  rw [ih, memS_cons]
  unfold Spn.has
  constructor
  ·rintro ⟨h3, h4, h5⟩
   refine ⟨by omega, h4, ?_⟩
   rintro (h | h)
   ·omega
   exact h5 h
  rintro ⟨h3, h4, h5⟩
  refine ⟨?_, h4, fun h => h5 (.inr h)⟩
  apply Int.not_lt.1
  intro h7
  exact h5 (.inl ⟨by omega, h7⟩)
def lenS (L : List Spn) : Int := (L.map fun s => s.o - s.i).sum
abbrev mT : Int := 10378368000
def aft (p : Option Int) (i : Int) : Bool := match p with | some q => decide (i ≤ q) | none => false
def chkL : Option Int → List Spn → Int
 | _, [] => 0
 | p, s :: L =>
  if s.i < 0 ∨ mT < s.o then 2
  else if s.o ≤ s.i then 1
  else if aft p s.i = true then 8
  else chkL (some s.o) L
def chkS (L : List Spn) : Int := if 400 < L.length then 9 else chkL none L
theorem chkL_ok : ∀ {L : List Spn} {p : Option Int}, chkL p L = 0 ↔ Can L ∧ (∀ s ∈ L, 0 ≤ s.i ∧ s.o ≤ mT) ∧ (∀ q, p = some q → ∀ s ∈ L, q < s.i)
 | [], p => ⟨fun _ => ⟨trivial, (fun s h => by cases h), (fun q hq s h => by cases h)⟩, fun _ => rfl⟩
 | s :: L, p => by
  unfold chkL
  constructor
  ·intro h
   split at h
   ·cases h
   rename_i h1
   split at h
   ·cases h
   rename_i h2
   split at h
   ·cases h
   rename_i h3
   obtain ⟨c1, c2, c3⟩ := chkL_ok.1 h
   have hp : ∀ q, p = some q → q < s.i := by
    intro q hq
    rw [hq] at h3
    simpa [aft] using h3
   refine ⟨⟨by omega, fun t ht => c3 _ rfl t ht, c1⟩, fun t ht => ?_, fun q hq t ht => ?_⟩
   ·rcases List.mem_cons.1 ht with rfl | ht
    ·omega
    exact c2 t ht
   have := hp q hq
   rcases List.mem_cons.1 ht with rfl | ht
   ·exact this
   have := c3 _ rfl t ht
   omega
  rintro ⟨⟨c1, c2, c3⟩, h2, h3⟩
  have := h2 s (List.mem_cons_self ..)
  rw [if_neg (by omega), if_neg (by omega), if_neg, chkL_ok]
  ·exact ⟨c3, fun t ht => h2 t (List.mem_cons_of_mem _ ht), fun q hq t ht => by cases hq; exact c2 t ht⟩
  cases p with
  | none => simp [aft]
  | some q =>
   have := h3 q rfl s (List.mem_cons_self ..)
   simp [aft]
   omega
theorem chkS_ok {L : List Spn} : chkS L = 0 ↔ L.length ≤ 400 ∧ Can L ∧ ∀ s ∈ L, 0 ≤ s.i ∧ s.o ≤ mT := by
 unfold chkS
 split
 ·rename_i h
  constructor
  ·intro h; cases h
  rintro ⟨h1, _⟩; omega
 rename_i h
 rw [chkL_ok]
 constructor
 ·rintro ⟨h1, h2, _⟩; exact ⟨by omega, h1, h2⟩
 rintro ⟨_, h1, h2⟩; exact ⟨h1, h2, fun q hq => by cases hq⟩
def limS (L : List Spn) : List Spn × Int := if 400 < L.length then ([], 9) else (L, 0)
def outB (s : Spn) : Bool := decide (s.i < s.o) && (decide (s.i < 0) || decide (mT < s.o))
def norS (L : List Spn) : List Spn × Int := if 400 < L.length then ([], 9) else if L.any outB = true then ([], 2) else (joinS L, 0)
def twoS (A B : List Spn) : Int := if chkS A = 0 then chkS B else chkS A
def subS (A B : List Spn) : List Spn × Int := if twoS A B = 0 then limS (comS A (rstS (mT + 1) 0 B)) else ([], twoS A B)
def lnS (L : List Spn) : Int × Int := if chkS L = 0 then (lenS L, 0) else (0, chkS L)
theorem twoS_ok {A B : List Spn} : twoS A B = 0 ↔ chkS A = 0 ∧ chkS B = 0 := by
 unfold twoS
 split
 ·rename_i h; exact ⟨fun h2 => ⟨h, h2⟩, fun h2 => h2.2⟩
 rename_i h; exact ⟨fun h2 => absurd h2 h, fun h2 => h2.1⟩
theorem in_top {B : List Spn} (h : ∀ s ∈ B, 0 ≤ s.i ∧ s.o ≤ mT) : InS (mT + 1) B := fun s hs => by have := (h s hs).2; omega
theorem rest_mem {B : List Spn} (hc : Can B) (h : ∀ s ∈ B, 0 ≤ s.i ∧ s.o ≤ mT) (n : Int) : MemS n (rstS (mT + 1) 0 B) ↔ 0 ≤ n ∧ n < mT + 1 ∧ ¬ MemS n B :=
 rstS_mem _ _ hc (fun s hs => (h s hs).1) (in_top h) n
theorem rest_can {B : List Spn} (hc : Can B) (h : ∀ s ∈ B, 0 ≤ s.i ∧ s.o ≤ mT) : Can (rstS (mT + 1) 0 B) :=
 rstS_can _ _ hc (fun s hs => (h s hs).1) (in_top h) (by decide)
theorem mem_bd {A : List Spn} (h : ∀ s ∈ A, 0 ≤ s.i ∧ s.o ≤ mT) {n : Int} (hn : MemS n A) : 0 ≤ n ∧ n < mT := by
 obtain ⟨s, hs, h1, h2⟩ := hn
 have := h s hs
 omega
theorem sub_mem {A B : List Spn} (ha : ∀ s ∈ A, 0 ≤ s.i ∧ s.o ≤ mT) (hc : Can B) (hb : ∀ s ∈ B, 0 ≤ s.i ∧ s.o ≤ mT) (n : Int) : MemS n (comS A (rstS (mT + 1) 0 B)) ↔ MemS n A ∧ ¬ MemS n B := by
 rw [comS_mem, rest_mem hc hb]
 constructor
 ·rintro ⟨h1, _, _, h2⟩; exact ⟨h1, h2⟩
 rintro ⟨h1, h2⟩
 have := mem_bd ha h1
 exact ⟨h1, this.1, by omega, h2⟩
theorem stp_len (out : List Spn) (s : Spn) : (stp out s).length ≤ out.length + 1 := by
 unfold stp
 split
 ·cases out with
  | nil => simp
  | cons l r =>
   simp only []
   split <;> simp
 omega
theorem foldl_stp_len : ∀ (L out : List Spn), (L.foldl stp out).length ≤ out.length + L.length
 | [], out => by simp
 | s :: L, out => by
  rw [List.foldl_cons]
  have := foldl_stp_len L (stp out s)
  have := stp_len out s
  simp
  omega
theorem putS_len (L : List Spn) (s : Spn) : (putS L s).length = L.length + 1 := by
 unfold putS
 have := congrArg List.length (List.takeWhile_append_dropWhile (p := fun t : Spn => decide (t.i ≤ s.i)) (l := L))
 rw [List.length_append] at this
 rw [List.length_append, List.length_cons]
 omega
theorem foldl_put_len : ∀ (L out : List Spn), (L.foldl (fun out s => if s.i < s.o then putS out s else out) out).length ≤ out.length + L.length
 | [], out => by simp
 | s :: L, out => by
  rw [List.foldl_cons]
  by_cases h : s.i < s.o
  ·rw [if_pos h]
   have := foldl_put_len L (putS out s)
   rw [putS_len] at this
   simp
   omega
  rw [if_neg h]
  have := foldl_put_len L out
  simp
  omega
theorem mrg_len (L : List Spn) : (mrg L).length ≤ L.length := by
 unfold mrg
 have := foldl_stp_len L []
 simp at this ⊢
 exact this
theorem joinS_len (L : List Spn) : (joinS L).length ≤ L.length := by
 have h1 := mrg_len (srtR L)
 have h2 := foldl_put_len L []
 have h3 : (srtR L).length ≤ L.length := by simpa [srtR] using h2
 exact Nat.le_trans h1 h3
theorem can_in {C : List Spn} (hc : Can C) (h : ∀ n, MemS n C → 0 ≤ n ∧ n < mT) : ∀ s ∈ C, 0 ≤ s.i ∧ s.o ≤ mT := by
 intro s hs
 have h0 := can_pos hc s hs
 have h1 := h s.i ⟨s, hs, Int.le_refl _, h0⟩
 have h2 := h (s.o - 1) ⟨s, hs, by omega, by omega⟩
 omega
theorem any_in {L : List Spn} (h : L.any outB = false) {n : Int} (hn : MemS n L) : 0 ≤ n ∧ n < mT := by
 obtain ⟨s, hs, h1, h2⟩ := hn
 have h3 : outB s = false := by
  have := List.any_eq_false.1 h s hs
  simpa using this
 unfold outB at h3
 have h4 : s.i < s.o := by omega
 simp [h4] at h3
 omega
theorem norS_chk {L : List Spn} (h : (norS L).2 = 0) : chkS (norS L).1 = 0 ∧ ∀ n, MemS n (norS L).1 ↔ MemS n L := by
 unfold norS at h ⊢
 split at h
 ·cases h
 rename_i h1
 split at h
 ·cases h
 rename_i h2
 rw [if_neg h1, if_neg h2]
 have h3 : L.any outB = false := by simpa using h2
 refine ⟨chkS_ok.2 ⟨?_, joinS_can L, can_in (joinS_can L) (fun n hn => any_in h3 ((joinS_mem L n).1 hn))⟩, joinS_mem L⟩
 have := joinS_len L
 show (joinS L).length ≤ 400
 omega
theorem limS_ok {L : List Spn} (h : (limS L).2 = 0) : (limS L).1 = L ∧ L.length ≤ 400 := by
 unfold limS at h ⊢
 split at h
 ·cases h
 rename_i h1
 rw [if_neg h1]
 exact ⟨rfl, by omega⟩
theorem subS_ok {A B : List Spn} (h : (subS A B).2 = 0) : chkS A = 0 ∧ chkS B = 0 ∧ chkS (subS A B).1 = 0 ∧ ∀ n, MemS n (subS A B).1 ↔ MemS n A ∧ ¬ MemS n B := by
 unfold subS at h ⊢
 split at h
 ·rename_i h1
  rw [if_pos h1]
  obtain ⟨ha, hb⟩ := twoS_ok.1 h1
  obtain ⟨e, hl⟩ := limS_ok h
  rw [e]
  obtain ⟨_, ca, ka⟩ := chkS_ok.1 ha
  obtain ⟨_, cb, kb⟩ := chkS_ok.1 hb
  have hm := sub_mem ka cb kb
  exact ⟨ha, hb, chkS_ok.2 ⟨hl, comS_can ca (rest_can cb kb), can_in (comS_can ca (rest_can cb kb)) (fun n hn => mem_bd ka ((hm n).1 hn).1)⟩, hm⟩
 rename_i h1
 exact absurd h h1
open Classical in
noncomputable def cntP (P : Int → Prop) : Nat → Int
 | 0 => 0
 | N + 1 => cntP P N + if P N then 1 else 0
theorem cnt_two (P Q : Int → Prop) : ∀ N, cntP (fun n => P n ∨ Q n) N + cntP (fun n => P n ∧ Q n) N = cntP P N + cntP Q N
 | 0 => rfl
 | N + 1 => by
  have ih := cnt_two P Q N
  unfold cntP
  by_cases hp : P N <;> by_cases hq : Q N <;> simp [hp, hq] <;> omega
theorem cnt_congr {P Q : Int → Prop} (h : ∀ n, P n ↔ Q n) : ∀ N, cntP P N = cntP Q N := by
 have : P = Q := funext fun n => propext (h n)
 subst this
 exact fun _ => rfl
theorem cnt_none {P : Int → Prop} : ∀ {N : Nat}, (∀ n : Int, 0 ≤ n → n < N → ¬ P n) → cntP P N = 0
 | 0, _ => rfl
 | N + 1, h => by
  unfold cntP
  rw [cnt_none (fun n h0 h1 => h n h0 (by omega)), if_neg (h N (by omega) (by omega))]
  rfl
theorem cnt_span {s : Spn} (h0 : 0 ≤ s.i) (h1 : s.i ≤ s.o) : ∀ {N : Nat}, cntP s.has N = if (N : Int) ≤ s.i then 0 else if (N : Int) ≤ s.o then N - s.i else s.o - s.i
 | 0 => by rw [if_pos (by omega)]; rfl
 | N + 1 => by
  unfold cntP
  rw [cnt_span h0 h1]
  have e : s.has (N : Int) ↔ s.i ≤ (N : Int) ∧ (N : Int) < s.o := Iff.rfl
  by_cases k1 : s.i ≤ (N : Int) ∧ (N : Int) < s.o
  ·rw [if_pos (e.2 k1)]
   repeat' split
   all_goals omega
  rw [if_neg (fun h => k1 (e.1 h))]
  repeat' split
  all_goals omega
theorem lenS_cnt : ∀ {L : List Spn} {N : Nat}, Can L → (∀ s ∈ L, 0 ≤ s.i ∧ s.o ≤ N) → lenS L = cntP (fun n => MemS n L) N
 | [], N, _, _ => (cnt_none (fun n _ _ => memS_nil)).symm
 | s :: L, N, hc, h => by
  have h1 := h s (List.mem_cons_self ..)
  have h2 := hc.1
  have ih := lenS_cnt hc.2.2 (fun t ht => h t (List.mem_cons_of_mem _ ht))
  have h3 := cnt_two s.has (fun n => MemS n L) N
  have h4 : cntP (fun n => s.has n ∧ MemS n L) N = 0 := cnt_none (fun n _ _ hn => by
   obtain ⟨hs, t, ht, h5, h6⟩ := hn
   have := hc.2.1 t ht
   have := hs.2
   omega)
  have h5 : cntP (fun n => MemS n (s :: L)) N = cntP (fun n => s.has n ∨ MemS n L) N := cnt_congr (fun n => memS_cons) N
  have h6 := cnt_span (s := s) h1.1 (by omega) (N := N)
  rw [if_neg (by omega)] at h6
  have h7 : cntP s.has N = s.o - s.i := by
   rw [h6]
   split <;> omega
  have h8 : lenS (s :: L) = (s.o - s.i) + lenS L := by simp [lenS]
  rw [h5, h8]
  omega
theorem lnS_cnt {L : List Spn} (h : chkS L = 0) : lnS L = (cntP (fun n => MemS n L) 10378368000, 0) := by
 unfold lnS
 rw [if_pos h]
 obtain ⟨_, hc, hb⟩ := chkS_ok.1 h
 rw [lenS_cnt hc (N := 10378368000) hb]
theorem lenS_bd : ∀ {L : List Spn}, (∀ s ∈ L, 0 ≤ s.i ∧ s.i < s.o ∧ s.o ≤ mT) → 0 ≤ lenS L ∧ lenS L ≤ L.length * mT
 | [], _ => ⟨Int.le_refl _, Int.le_refl _⟩
 | s :: L, h => by
  have h1 := h s (List.mem_cons_self ..)
  obtain ⟨h2, h3⟩ := lenS_bd (fun t ht => h t (List.mem_cons_of_mem _ ht))
  have h8 : lenS (s :: L) = (s.o - s.i) + lenS L := by simp [lenS]
  rw [h8, List.length_cons]
  constructor
  ·omega
  have : ((L.length + 1 : Nat) : Int) * mT = L.length * mT + mT := by rw [Int.natCast_add, Int.add_mul]; simp
  omega
open Go.RowKit Go.Joins
def spV (x : Spn) : List Value := [.int .i64 x.i, .int .i64 x.o]
theorem spV_len (x : Spn) : (spV x).length = 2 := rfl
abbrev spA (x : Spn) : Value := .agg #[.int .i64 x.i, .int .i64 x.o]
theorem infoS : (Tryz.prog.info? 29).map (fun i => (i.zero, i.size, i.bytes)) = some (some (.agg #[.int .i64 0, .int .i64 0]), 2, 16) := by kernel_rfl
theorem info_parts {p : TypeId} {v : Value} {s b : Nat} (h : (Tryz.prog.info? p).map (fun i => (i.zero, i.size, i.bytes)) = some (some v, s, b)) :
  ∃ i0, Tryz.prog.info? p = some i0 ∧ i0.zero = some v ∧ i0.size = s ∧ i0.bytes = b := by
 cases hi : Tryz.prog.info? p with
 | none => rw [hi] at h; cases h
 | some i => rw [hi] at h; simp at h; exact ⟨i, rfl, h.1, h.2.1, h.2.2⟩
theorem below_one (w : World) (o : Obj) : Below w.heap.size w (w.alloc o) := (Below.refl _ _).alloc (Nat.le_refl _) _
abbrev SpAt (w : World) (A : Option Addr) (L : List Spn) : Prop := RowAt w A (L.flatMap spV)
theorem SpAt.get {w : World} {g o : Nat} {L : List Spn} (h : SpAt w (some ⟨g, o, none⟩) L) {k : Nat} {x : Spn} (hk : L[k]? = some x) :
  w.cell? ⟨g, o + k * 2, none⟩ = some (.int .i64 x.i) ∧ w.cell? ⟨g, o + k * 2 + 1, none⟩ = some (.int .i64 x.o) := by
 have H : ∀ j u, j < 2 → (spV x)[j]? = some u → w.cell? ⟨g, o + k * 2 + j, none⟩ = some u := by
  intro j u hj hu
  obtain ⟨b, o', e, hc⟩ := h (k * 2 + j) u ((flat_get spV_len hk hj).trans hu)
  cases e
  rwa [← Nat.add_assoc] at hc
 exact ⟨H 0 _ (by omega) rfl, H 1 _ (by omega) rfl⟩
theorem SpAt.some {w : World} {A : Option Addr} {L : List Spn} (h : SpAt w A L) {k : Nat} {x : Spn} (hk : L[k]? = some x) : ∃ g o, A = some ⟨g, o, none⟩ := by
 obtain ⟨b, o', e, hc⟩ := h (k * 2 + 0) _ ((flat_get spV_len hk (by omega)).trans rfl)
 exact ⟨b, o', e⟩
def Spl (w : World) (v : Value) (L : List Spn) : Prop := ∃ A c, v = .slice A L.length c ∧ SpAt w A L
theorem Spl.nil (w : World) : Spl w (.slice none 0 0) [] := ⟨none, 0, rfl, RowAt.nil _ _⟩
theorem Spl.own {w : World} {base : Nat} {v : Value} {L : List Spn} (h : w.ownsRow base 29 2 v L.length (L.flatMap spV)) : Spl w v L := by
 obtain ⟨A, c, e, hr, _⟩ := row_of_ownK h
 exact ⟨A, c, e, hr⟩
theorem two_of {w : World} {g : Nat} {a b : Value} (h : Held w g [a, b]) : w.cell? ⟨g, 0, none⟩ = some a ∧ w.cell? ⟨g, 1, none⟩ = some b := ⟨h.cell 0, h.cell 1⟩
theorem spV_one (x : Spn) : ∀ v ∈ spV x, v.oneCell' = true := by
 intro v hv
 simp [spV] at hv
 rcases hv with rfl | rfl <;> rfl
theorem flat_snoc (L : List Spn) (x : Spn) : (L ++ [x]).flatMap spV = L.flatMap spV ++ spV x := by simp
def pv (L : List Spn) (k : Nat) : Option Int := match k with | 0 => none | k + 1 => (L[k]?).map (·.o)
theorem chk_step {L : List Spn} {k : Nat} {x : Spn} (hk : L[k]? = some x) : chkL (pv L k) (L.drop k) =
  if x.i < 0 ∨ mT < x.o then 2 else if x.o ≤ x.i then 1 else if aft (pv L k) x.i = true then 8 else chkL (pv L (k + 1)) (L.drop (k + 1)) := by
 obtain ⟨h, e⟩ := List.getElem?_eq_some_iff.1 hk
 rw [List.drop_eq_getElem_cons h, e]
 show chkL (pv L k) (x :: L.drop (k + 1)) = _
 rw [show pv L (k + 1) = some x.o by simp [pv, hk]]
 rfl
theorem chk_any (A : Option Addr) (c : Nat) (L : List Spn) (w : World) (hs : SpAt w A L) (hl : L.length ≤ 1000000000) :
  Calls Tryz.prog 39 #[.slice A L.length c] w fun e w' => e = .returned (.int .i64 (chkS L)) ∧ Below w.heap.size w w' := by
 have HS := ι hs
 clear hs
 obtain ⟨D, hD⟩ : ∃ D, D = w.heap.size := ⟨_, rfl⟩
 have HD := ι hD
 rw [← hD]
 clear hD
 by_cases h4 : 400 < L.length
 ·rw [show chkS L = 9 by unfold chkS; rw [if_pos h4]]
  have h5 : (400 : Int) < (L.length : Int) := by omega
  go_enter Tryz.func39, Tryz.ntmps39
  go_wp2_with fail
  go_ret
  exact ⟨rfl, Below.refl _ _⟩
 rw [show chkS L = chkL none L by unfold chkS; rw [if_neg h4]]
 have h5 : ¬ ((400 : Int) < (L.length : Int)) := by omega
 obtain ⟨R, hR⟩ : ∃ R, R = chkL none L := ⟨_, rfl⟩
 have HR := ι (show R = chkL (pv L 0) (L.drop 0) from hR)
 rw [← hR]
 clear hR
 go_enter Tryz.func39, Tryz.ntmps39
 go_wp2_with fail
 go_loopw [10] (fun i wr => ∃ k : Nat, k ≤ L.length ∧ i = .int .i64 k ∧ Hid (R = chkL (pv L k) (L.drop k)) ∧ Hid (Below D w wr)) (fun i _ => L.length - (intOf i).toNat)
 case atStart => exact ⟨0, by omega, rfl, HR, ι (Below.refl _ _)⟩
 case round =>
 obtain ⟨k, hk, rfl, HK, G⟩ := hrel
 clear HR
 have hDw : D ≤ wr.heap.size := by have := G.out.size; have := HD.out; omega
 by_cases hlt : k < L.length
 ·have hlt2 : (k : Int) < (L.length : Int) := by omega
  obtain ⟨x, hx⟩ : ∃ x, L[k]? = some x := ⟨_, List.getElem?_eq_getElem hlt⟩
  have HX := ι hx
  have HRw := HS.out.below (HD.out ▸ G.out) (Nat.le_refl _)
  obtain ⟨g, o, rfl⟩ := SpAt.some HRw hx
  obtain ⟨q0, q1⟩ := SpAt.get HRw hx
  have hst := HK.out.trans (chk_step hx)
  by_cases h1 : x.i < 0
  ·rw [if_pos (.inl h1)] at hst
   subst hst
   clear HRw hx HK
   go_wp2_with fail
   go_ret
   exact ⟨rfl, (G.out.alloc hDw _)⟩
  by_cases h2 : 10378368000 < x.o
  ·rw [if_pos (.inr h2)] at hst
   subst hst
   clear HRw hx HK
   go_wp2_with fail
   go_ret
   exact ⟨rfl, (G.out.alloc hDw _)⟩
  rw [if_neg (by show ¬ (x.i < 0 ∨ 10378368000 < x.o); omega)] at hst
  by_cases h3 : x.o ≤ x.i
  ·rw [if_pos h3] at hst
   subst hst
   clear HRw hx HK
   go_wp2_with fail
   go_ret
   exact ⟨rfl, (G.out.alloc hDw _)⟩
  rw [if_neg h3] at hst
  by_cases hk0 : k = 0
  ·subst hk0
   rw [if_neg (by simp [pv, aft])] at hst
   have HST := ι hst
   simp only [Nat.zero_mul, Nat.add_zero] at q0 q1
   clear HRw hx HK hst
   go_wp2_with fail
   generalize hw2 : World.alloc wr _ = w2
   have F2 : Held w2 wr.heap.size [.int .i64 x.i, .int .i64 x.o] := by subst hw2; exact Held.new rfl
   obtain ⟨z0, z1⟩ := two_of F2
   have G2 := ι (show Below D w w2 by subst hw2; exact G.out.alloc hDw _)
   clear hw2 q0 q1 F2
   go_quiet (fail)
   all_goals
    go_wp2_with fail
    go_roundw
    case rel => exact ⟨1, by omega, by go_num, HST, ι (below_drewN G2.out _)⟩
    case measure => simp [intOf]; omega
  obtain ⟨m, hm⟩ : ∃ m, k = m + 1 := ⟨k - 1, by omega⟩
  obtain ⟨y, hy⟩ : ∃ y, L[m]? = some y := ⟨_, List.getElem?_eq_getElem (by omega)⟩
  have hpv : pv L k = some y.o := by rw [hm]; simp [pv, hy]
  rw [hpv] at hst
  have m2 : 0 < k := by omega
  have m5 : decide (0 < k) = true := by simpa using m2
  have m3 : IntKind.i64.wrap ((k : Int) - 1) = (m : Int) := by rw [IntKind.wrap_i64]; omega
  have m4 : (m : Int) < (L.length : Int) := by omega
  have HY := ι hy
  have HRW := ι HRw
  clear hy hx HK hm hpv HRw
  by_cases h6 : x.i ≤ y.o
  ·rw [if_pos (by simpa [aft] using h6)] at hst
   subst hst
   go_wp2_with fail
   generalize hw2 : World.alloc wr _ = w2
   have F2 : Held w2 wr.heap.size [.int .i64 x.i, .int .i64 x.o] := by subst hw2; exact Held.new rfl
   obtain ⟨z0, z1⟩ := two_of F2
   obtain ⟨r0, r1⟩ := SpAt.get (HRW.out.ext (hw2 ▸ below_one wr _)) HY.out
   have G2 := ι (show Below D w w2 by subst hw2; exact G.out.alloc hDw _)
   clear hw2 q0 q1 F2
   go_quiet (fail)
   all_goals
    go_wp2_with fail
    go_ret
    exact ⟨rfl, below_drewN G2.out _⟩
  rw [if_neg (by simpa [aft] using h6)] at hst
  have HST := ι hst
  clear hst
  go_wp2_with fail
  generalize hw2 : World.alloc wr _ = w2
  have F2 : Held w2 wr.heap.size [.int .i64 x.i, .int .i64 x.o] := by subst hw2; exact Held.new rfl
  obtain ⟨z0, z1⟩ := two_of F2
  obtain ⟨r0, r1⟩ := SpAt.get (HRW.out.ext (hw2 ▸ below_one wr _)) HY.out
  have G2 := ι (show Below D w w2 by subst hw2; exact G.out.alloc hDw _)
  clear hw2 q0 q1 F2
  go_quiet (fail)
  all_goals
   go_wp2_with fail
   go_roundw
   case rel => exact ⟨k + 1, by omega, by go_num, HST, ι (below_drewN G2.out _)⟩
   case measure => simp [intOf]; omega
 obtain rfl : k = L.length := by omega
 have hst : R = 0 := by rw [HK.out, List.drop_length]; rfl
 subst hst
 clear hlt HK
 go_wp2_with fail
 go_ret
 exact ⟨rfl, G.out⟩
theorem own_base {w : World} {base : Nat} {e : TypeId} {size : Nat} {v : Value} {n : Nat} {xs : List Value} (h : w.ownsRow base e size v n xs) : ∀ k, v.ownBlock = some k → base ≤ k := by
 intro k hk
 exact (h.lt k hk).1
def NewP (L : List Spn) (W : World) (e : Ending) (w' : World) : Prop := (∃ v, e = .returned v ∧ w'.ownsRow W.heap.size 29 2 v L.length (L.flatMap spV)) ∧ Below W.heap.size W w'
theorem filt_len (s : Spn) (B : List Spn) : ((B.map (cutS s)).filter fun t => decide (t.i < t.o)).length ≤ B.length := by
 have := List.length_filter_le (fun t : Spn => decide (t.i < t.o)) (B.map (cutS s))
 simpa using this
theorem comS_len : ∀ (A B : List Spn), (comS A B).length ≤ A.length * B.length
 | [], B => by simp [comS]
 | s :: A, B => by
  have h1 := comS_len A B
  have h2 := filt_len s B
  show (((B.map (cutS s)).filter fun t => decide (t.i < t.o)) ++ comS A B).length ≤ _
  rw [List.length_append, List.length_cons, Nat.succ_mul]
  omega
theorem comS_step {A B : List Spn} {k : Nat} {x : Spn} (hk : A[k]? = some x) : comS (A.take (k + 1)) B = comS (A.take k) B ++ ((B.map (cutS x)).filter fun t => decide (t.i < t.o)) := by
 unfold comS
 rw [List.take_add_one, hk, List.flatMap_append]
 simp
theorem filt_step {x y : Spn} {B : List Spn} {k : Nat} (hk : B[k]? = some y) : ((B.take (k + 1)).map (cutS x)).filter (fun t => decide (t.i < t.o)) = ((B.take k).map (cutS x)).filter (fun t => decide (t.i < t.o)) ++ (if max x.i y.i < min x.o y.o then [cutS x y] else []) := by
 rw [List.take_add_one, hk, List.map_append, List.filter_append]
 congr 1
 show List.filter _ [cutS x y] = _
 rw [List.filter_cons]
 show (if decide (max x.i y.i < min x.o y.o) = true then _ else _) = _
 by_cases h : max x.i y.i < min x.o y.o <;> simp [h]
end Go.Proofs.YtmopjhbfobmklaaGreatDoor
