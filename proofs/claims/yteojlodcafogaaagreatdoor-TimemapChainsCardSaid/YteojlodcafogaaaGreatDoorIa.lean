/-
  Pieces put in order and joined step by step, and pieces that lie apart: in plain words. Without conditions.
-/
import Derived.Test.YteojlodcafogaaaGreatDoorBz
namespace Go.Proofs.YteojlodcafogaaaGreatDoor
set_option linter.unusedVariables false
set_option linter.unusedSimpArgs false
def fwdP (ys : List Pc) (k : Nat) : List Pc := ((ys.take k).foldl jstP []).reverse
theorem fwdP_len (ys : List Pc) (k : Nat) : (fwdP ys k).length ≤ ys.length := by
  have h := foldl_jst_len (ys.take k) []
  have h2 := List.length_take_le k ys
  have h3 : (ys.take k).length ≤ ys.length := by rw [List.length_take]; omega
  unfold fwdP
  rw [List.length_reverse]
  simp only [List.length_nil] at h
  omega
theorem fwdP_cases (ys : List Pc) (k : Nat) : fwdP ys k = [] ∨ ∃ M l, fwdP ys k = M ++ [l] := by
  unfold fwdP
  cases (ys.take k).foldl jstP [] with
  | nil => exact .inl rfl
  | cons l r => exact .inr ⟨r.reverse, l, by rw [List.reverse_cons]⟩
theorem fwdP_step {ys : List Pc} {k : Nat} {x : Pc} (hk : ys[k]? = some x) : (ys.take (k + 1)).foldl jstP [] = jstP ((ys.take k).foldl jstP []) x := by
  rw [List.take_add_one, hk, List.foldl_append]
  rfl
theorem fwdP_nil {ys : List Pc} {k : Nat} {x : Pc} (hk : ys[k]? = some x) (h0 : fwdP ys k = []) : fwdP ys (k + 1) = [] ++ [x] := by
  unfold fwdP at h0 ⊢
  rw [List.reverse_eq_nil_iff] at h0
  rw [fwdP_step hk, h0]
  rfl
theorem fwdP_some {ys : List Pc} {k : Nat} {M : List Pc} {l : Pc} (h0 : fwdP ys k = M ++ [l]) : (ys.take k).foldl jstP [] = l :: M.reverse := by
  unfold fwdP at h0
  have := congrArg List.reverse h0
  simpa using this
theorem fwdP_join {ys : List Pc} {k : Nat} {x l : Pc} {M : List Pc} (hk : ys[k]? = some x) (h0 : fwdP ys k = M ++ [l]) (h : onB l x = true) : fwdP ys (k + 1) = M ++ [⟨l.i, x.o, l.t, l.n, l.d⟩] := by
  have e := fwdP_some h0
  unfold fwdP
  rw [fwdP_step hk, e]
  simp [jstP, h]
theorem fwdP_new {ys : List Pc} {k : Nat} {x l : Pc} {M : List Pc} (hk : ys[k]? = some x) (h0 : fwdP ys k = M ++ [l]) (h : onB l x = false) : fwdP ys (k + 1) = (M ++ [l]) ++ [x] := by
  have e := fwdP_some h0
  unfold fwdP
  rw [fwdP_step hk, e]
  simp [jstP, h]
theorem fwdP_all (ys : List Pc) : fwdP ys ys.length = jndP ys := by unfold fwdP jndP; rw [List.take_length]
theorem onB_yes {l x : Pc} (h1 : l.o = x.i) (h2 : l.t - l.i = x.t - x.i) : onB l x = true := by simp [onB, h1, h2]
theorem onB_no1 {l x : Pc} (h1 : l.o ≠ x.i) : onB l x = false := by simp [onB, h1]
theorem onB_no2 {l x : Pc} (h2 : l.t - l.i ≠ x.t - x.i) : onB l x = false := by simp [onB, h2]
/-- Frames of a piece lie in the range. -/
def Bdp (p : Pc) : Prop := (0 ≤ p.i ∧ p.i ≤ 5184000) ∧ (0 ≤ p.o ∧ p.o ≤ 5184000) ∧ (0 ≤ p.t ∧ p.t ≤ 5184000)
theorem jst_bd {out : List Pc} {p : Pc} (h : ∀ q ∈ out, Bdp q) (hp : Bdp p) : ∀ q ∈ jstP out p, Bdp q := by
  intro q hq
  unfold jstP at hq
  cases out with
  | nil => rw [List.mem_singleton] at hq; exact hq ▸ hp
  | cons l r =>
    simp only [] at hq
    have hl := h l (List.mem_cons_self ..)
    split at hq
    · rcases List.mem_cons.1 hq with rfl | hq
      · exact ⟨hl.1, hp.2.1, hl.2.2⟩
      · exact h q (List.mem_cons_of_mem _ hq)
    · rcases List.mem_cons.1 hq with rfl | hq
      · exact hp
      · exact h q hq
theorem foldl_jst_bd : ∀ (L out : List Pc), (∀ q ∈ L, Bdp q) → (∀ q ∈ out, Bdp q) → ∀ q ∈ L.foldl jstP out, Bdp q
  | [], out, _, h => h
  | p :: L, out, hL, h => by
    rw [List.foldl_cons]
    exact foldl_jst_bd L _ (fun q hq => hL q (List.mem_cons_of_mem _ hq)) (jst_bd h (hL p (List.mem_cons_self ..)))
theorem fwdP_bd {ys : List Pc} (h : ∀ q ∈ ys, Bdp q) (k : Nat) : ∀ q ∈ fwdP ys k, Bdp q := by
  intro q hq
  unfold fwdP at hq
  rw [List.mem_reverse] at hq
  exact foldl_jst_bd _ [] (fun q hq => h q (List.mem_of_mem_take hq)) (fun q hq => by cases hq) q hq
theorem jndP_bd {ys : List Pc} (h : ∀ q ∈ ys, Bdp q) : ∀ q ∈ jndP ys, Bdp q := by rw [← fwdP_all]; exact fwdP_bd h _
theorem perm_bd {L M : List Pc} (h : L.Perm M) (hm : ∀ q ∈ M, Bdp q) : ∀ q ∈ L, Bdp q := fun q hq => hm q (h.mem_iff.1 hq)
theorem god_bd {p : Pc} (h : GodP p) : Bdp p := by
  have a := (god_iff h.2).1 h.1
  have a3 : p.o ≤ 5184000 := a.2.2.1
  have a5 : p.t + (p.o - p.i) ≤ 5184000 := a.2.2.2.2
  exact ⟨⟨by omega, by omega⟩, ⟨by omega, by omega⟩, by omega, by omega⟩
theorem insP_at {L : List Pc} {s : Pc} {k : Nat} (hk : k ≤ L.length) (h1 : ∀ j x, j < k → L[j]? = some x → x.i < s.i) (h2 : ∀ x, L[k]? = some x → s.i ≤ x.i) : insP L s = L.take k ++ [s] ++ L.drop k := by
  unfold insP
  have e1 : L.takeWhile (fun t => decide (t.i < s.i)) = L.take k ∧ L.dropWhile (fun t => decide (t.i < s.i)) = L.drop k := by
    clear hk
    induction k generalizing L with
    | zero =>
      cases L with
      | nil => exact ⟨rfl, rfl⟩
      | cons x r =>
        have := h2 x rfl
        have e : decide (x.i < s.i) = false := by simp; omega
        simp [List.takeWhile_cons, List.dropWhile_cons, e]
    | succ k ih =>
      cases L with
      | nil => exact ⟨rfl, rfl⟩
      | cons x r =>
        have := h1 0 x (by omega) rfl
        have e : decide (x.i < s.i) = true := by simp; omega
        obtain ⟨i1, i2⟩ := ih (L := r) (fun j y hj hy => h1 (j + 1) y (by omega) hy) (fun y hy => h2 y hy)
        simp [List.takeWhile_cons, List.dropWhile_cons, e, i1, i2]
  rw [e1.1, e1.2]
  simp
theorem srtP_step {L : List Pc} {k : Nat} {x : Pc} (hk : L[k]? = some x) : srtP (L.take (k + 1)) = insP (srtP (L.take k)) x := by
  unfold srtP
  rw [List.take_add_one, hk, List.foldl_append]
  rfl
theorem srtP_len (L : List Pc) : (srtP L).length = L.length := (srtP_perm L).length_eq
/-- Neighbours of the first k are apart. -/
def AdjP (ys : List Pc) (k : Nat) : Prop := ∀ j p q, j + 1 < k → ys[j]? = some p → ys[j + 1]? = some q → p.o ≤ q.i
theorem adj_ord : ∀ {ys : List Pc}, (∀ p ∈ ys, p.i < p.o) → AdjP ys ys.length → OrdP ys
  | [], _, _ => trivial
  | [p], _, _ => ⟨fun q hq => (by cases hq), trivial⟩
  | p :: q :: r, hn, h => by
    have h1 : OrdP (q :: r) := adj_ord (fun x hx => hn x (List.mem_cons_of_mem _ hx)) (fun j a b hj ha hb => h (j + 1) a b (by simp only [List.length_cons] at hj ⊢; omega) ha hb)
    have h2 := h 0 p q (by simp) rfl rfl
    have h3 := hn q (List.mem_cons_of_mem _ (List.mem_cons_self ..))
    refine ⟨fun x hx => ?_, h1⟩
    rcases List.mem_cons.1 hx with rfl | hx
    · exact h2
    · have := h1.1 x hx; omega
theorem asc_get : ∀ {ys : List Pc} {j : Nat} {p q : Pc}, AscP ys → ys[j]? = some p → ys[j + 1]? = some q → p.i ≤ q.i
  | [], j, p, q, _, h, _ => by simp at h
  | a :: r, 0, p, q, hs, h1, h2 => by
    have e : a = p := by simpa using h1
    subst e
    exact hs.1 q (List.mem_of_getElem? (i := 0) (by simpa using h2))
  | a :: r, j + 1, p, q, hs, h1, h2 => asc_get (ys := r) (j := j) hs.2 (by simpa using h1) (by simpa using h2)
/-- Two sorted neighbours that overlap: the pieces are not apart. -/
theorem adj_bad {ys L : List Pc} {j : Nat} {p q : Pc} (hp : ys.Perm L) (hn : ∀ p ∈ L, p.i < p.o) (ha : AscP ys) (h1 : ys[j]? = some p) (h2 : ys[j + 1]? = some q) (h : q.i < p.o) : ¬ L.Pairwise DsjP := by
  intro hd
  have hd := (dsj_perm hp).2 hd
  have a := asc_get ha h1 h2
  have b := hn q (hp.mem_iff.1 (List.mem_of_getElem? h2))
  obtain ⟨j1, e1⟩ := List.getElem?_eq_some_iff.1 h1
  obtain ⟨j2, e2⟩ := List.getElem?_eq_some_iff.1 h2
  have := List.pairwise_iff_getElem.1 hd j (j + 1) j1 j2 (by omega)
  rw [e1, e2] at this
  rcases this with c | c <;> omega
theorem adj_good {ys L : List Pc} (hp : ys.Perm L) (hn : ∀ p ∈ L, p.i < p.o) (h : AdjP ys ys.length) : L.Pairwise DsjP :=
  (dsj_perm hp).1 (ord_dsj (adj_ord (fun p h => hn p (hp.mem_iff.1 h)) h))
theorem pair_step {L : List Pc} {k : Nat} {x : Pc} (hk : L[k]? = some x) (h : (L.take k).Pairwise DsjP) (hx : ∀ q ∈ L.take k, DsjP q x) : (L.take (k + 1)).Pairwise DsjP := by
  rw [List.take_add_one, hk]
  exact List.pairwise_append.2 ⟨h, List.pairwise_singleton .., fun a ha b hb => by
    have e : b = x := by simpa using hb
    exact e ▸ hx a ha⟩
theorem pair_bad {L : List Pc} {k j : Nat} {x y : Pc} (hk : L[k]? = some x) (hj : j < k) (hy : L[j]? = some y) (h : ¬ DsjP y x) : ¬ L.Pairwise DsjP := by
  intro hd
  obtain ⟨j1, e1⟩ := List.getElem?_eq_some_iff.1 hy
  obtain ⟨j2, e2⟩ := List.getElem?_eq_some_iff.1 hk
  have := List.pairwise_iff_getElem.1 hd j k j1 j2 hj
  rw [e1, e2] at this
  exact h this
theorem inv_get {m : List Pc} {k : Nat} {x : Pc} (h : m[k]? = some x) : (invL m)[k]? = some (invO x) := by
  unfold invL
  rw [List.getElem?_map, h]
  rfl
theorem invL_len (m : List Pc) : (invL m).length = m.length := List.length_map ..
theorem invL_step {m : List Pc} {k : Nat} {x : Pc} (h : m[k]? = some x) : invL (m.take (k + 1)) = invL (m.take k) ++ [invO x] := by
  unfold invL
  rw [List.take_add_one, h, List.map_append]
  rfl
theorem plnB_hit {m : List Pc} {k : Nat} {x : Pc} (h : m[k]? = some x) (hx : plnO x = false) : plnB m = false := by
  unfold plnB
  rw [List.all_eq_false]
  exact ⟨x, List.mem_of_getElem? h, by simp [hx]⟩
theorem plnB_all {m : List Pc} (h : ∀ j x, j < m.length → m[j]? = some x → plnO x = true) : plnB m = true := by
  unfold plnB
  rw [List.all_eq_true]
  intro x hx
  obtain ⟨j, hj, e⟩ := List.mem_iff_getElem.1 hx
  exact h j x hj (by rw [List.getElem?_eq_getElem hj, e])
theorem plnO_yes {x : Pc} (h : plnO x = true) : x.n = 1 ∧ x.d = 1 := by simpa [plnO] using h
theorem plnO_no {x : Pc} (h : plnO x = false) : x.n ≠ 1 ∨ x.d ≠ 1 := by
  by_cases h1 : x.n = 1
  · exact .inr (fun h2 => by simp [plnO, h1, h2] at h)
  · exact .inl h1
theorem crs_step {a b : List Pc} {k : Nat} {x : Pc} (h : a[k]? = some x) : crsP (a.take (k + 1)) b = crsP (a.take k) b ++ b.flatMap (fun q => crsO x q) := by
  unfold crsP
  rw [List.take_add_one, h, List.flatMap_append]
  simp
theorem row_step {p : Pc} {b : List Pc} {k : Nat} {x : Pc} (h : b[k]? = some x) : (b.take (k + 1)).flatMap (fun q => crsO p q) = (b.take k).flatMap (fun q => crsO p q) ++ crsO p x := by
  rw [List.take_add_one, h, List.flatMap_append]
  simp
theorem crsO_len (p q : Pc) : (crsO p q).length ≤ 1 := by unfold crsO; split <;> simp
theorem row_len (p : Pc) : ∀ b : List Pc, (b.flatMap fun q => crsO p q).length ≤ b.length
  | [] => Nat.le_refl _
  | q :: b => by
    have := row_len p b
    have := crsO_len p q
    rw [List.flatMap_cons, List.length_append, List.length_cons]
    omega
theorem crsP_len (b : List Pc) : ∀ a : List Pc, (crsP a b).length ≤ a.length * b.length
  | [] => by simp [crsP]
  | p :: a => by
    have h1 := crsP_len b a
    have h2 := row_len p b
    have e : crsP (p :: a) b = (b.flatMap fun q => crsO p q) ++ crsP a b := rfl
    rw [e, List.length_append, List.length_cons, Nat.succ_mul]
    omega
theorem crsO_hit {p q : Pc} (h : max p.i (q.i - (p.t - p.i)) < min p.o (q.o - (p.t - p.i))) : crsO p q = [⟨max p.i (q.i - (p.t - p.i)), min p.o (q.o - (p.t - p.i)), q.t + max p.i (q.i - (p.t - p.i)) + (p.t - p.i) - q.i, p.n, p.d⟩] := by unfold crsO; rw [if_pos h]
theorem crsO_miss {p q : Pc} (h : ¬ max p.i (q.i - (p.t - p.i)) < min p.o (q.o - (p.t - p.i))) : crsO p q = [] := by unfold crsO; rw [if_neg h]
end Go.Proofs.YteojlodcafogaaaGreatDoor
