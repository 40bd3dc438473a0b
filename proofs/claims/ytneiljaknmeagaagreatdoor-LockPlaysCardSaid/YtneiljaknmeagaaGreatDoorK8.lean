/-
  What Take and Release leave in order. Without conditions.
-/
import Derived.Test.YtneiljaknmeagaaGreatDoorM5
namespace Go.Proofs.YtneiljaknmeagaaGreatDoor
open Go.RowKit Go.Joins
set_option linter.unusedVariables false
set_option linter.unusedSimpArgs false
theorem fpos_lt {name : List UInt8} : ∀ {L : List Ls} {m : Nat} {x : Ls}, m < fpos name L → L[m]? = some x → cmpB x.reel name < 0
  | [], m, x, _, h => by simp at h
  | y :: r, 0, x, h, hx => by
    rw [fpos] at h
    split at h
    · simp at hx
      subst hx
      assumption
    · omega
  | y :: r, m + 1, x, h, hx => by
    rw [fpos] at h
    split at h
    · exact fpos_lt (L := r) (m := m) (by omega) (by simpa using hx)
    · omega
theorem fpos_at {name : List UInt8} : ∀ {L : List Ls} {x : Ls}, L[fpos name L]? = some x → ¬ cmpB x.reel name < 0
  | [], x, h => by simp at h
  | y :: r, x, h => by
    by_cases hy : cmpB y.reel name < 0
    · rw [fpos, if_pos hy] at h
      exact fpos_at (L := r) (by simpa using h)
    · rw [fpos, if_neg hy] at h
      simp at h
      subst h
      exact hy
theorem fpos_gt {name : List UInt8} {L : List Ls} (ha : Asc L) (hh : fhas name L = false) {m : Nat} {x : Ls} (hm : fpos name L ≤ m) (hx : L[m]? = some x) : cmpB name x.reel < 0 := by
  have hml := (List.getElem?_eq_some_iff.1 hx).1
  obtain ⟨y, hy⟩ : ∃ y, L[fpos name L]? = some y := ⟨_, List.getElem?_eq_getElem (by omega)⟩
  have h1 := fpos_at hy
  have h2 : y.reel ≠ name := by
    intro e
    unfold fhas at hh
    rw [hy] at hh
    simp [e] at hh
  have h3 : cmpB y.reel name ≠ 0 := fun e => h2 (cmp_zero e)
  have h4 : cmpB name y.reel < 0 := by
    rw [cmp_anti]
    omega
  rcases Nat.lt_or_ge (fpos name L) m with h | h
  · exact cmp_trans h4 (ha.get h hy hx)
  · have : m = fpos name L := by omega
    subst this
    rw [hx] at hy
    cases hy
    exact h4
theorem ins_asc {L : List Ls} {x : Ls} (ha : Asc L) (hh : fhas x.reel L = false) : Asc (L.take (fpos x.reel L) ++ x :: L.drop (fpos x.reel L)) := by
  have ht : ∀ a ∈ L.take (fpos x.reel L), cmpB a.reel x.reel < 0 := by
    intro a h
    obtain ⟨m, hm⟩ := List.mem_iff_getElem?.1 h
    rw [List.getElem?_take] at hm
    split at hm
    · rename_i hlt
      exact fpos_lt hlt hm
    · cases hm
  have hd : ∀ c ∈ L.drop (fpos x.reel L), cmpB x.reel c.reel < 0 := by
    intro c h
    obtain ⟨m, hm⟩ := List.mem_iff_getElem?.1 h
    rw [List.getElem?_drop] at hm
    exact fpos_gt ha hh (Nat.le_add_right _ _) hm
  refine List.pairwise_append.2 ⟨ha.sublist (List.take_sublist _ _), List.pairwise_cons.2 ⟨hd, ha.sublist (List.drop_sublist _ _)⟩, ?_⟩
  intro a h b hb
  rcases List.mem_cons.1 hb with rfl | hb
  · exact ht a h
  · exact cmp_trans (ht a h) (hd b hb)
theorem take_asc {T : Tb} {now ses : Int} {reel : List UInt8} (ha : Asc T.lea) : Asc (takeR T now ses reel).1.lea := by
  have hu := toldT_asc ha now
  unfold takeR
  split
  · split
    · split
      · split
        · split <;> exact hu
        · rename_i hh
          split
          · exact hu
          · exact ins_asc (x := ⟨reel, ses, (toldT T now).lf + 1, now + 600⟩) hu (by simpa using hh)
      · exact hu
    · exact hu
  · exact hu
theorem take_len (T : Tb) (now ses : Int) (reel : List UInt8) : (takeR T now ses reel).1.lea.length ≤ T.lea.length + 1 ∧ (takeR T now ses reel).1.ses = T.ses ∧ T.lf ≤ (takeR T now ses reel).1.lf ∧ (takeR T now ses reel).1.lf ≤ T.lf + 1 ∧ (takeR T now ses reel).1.ls = T.ls := by
  obtain ⟨h1, h2, h3, h4⟩ := toldT_len T now
  have hp := fpos_le reel (toldT T now).lea
  unfold takeR
  split
  · split
    · split
      · split
        · split <;> exact ⟨by simp; omega, by simpa using h2, by simp; omega, by simp; omega, by simpa using h4⟩
        · split
          · exact ⟨by simp; omega, by simpa using h2, by simp; omega, by simp; omega, by simpa using h4⟩
          · exact ⟨by simp [takeL]; omega, by simpa using h2, by simp; omega, by simp; omega, by simpa using h4⟩
      · exact ⟨by simp; omega, by simpa using h2, by simp; omega, by simp; omega, by simpa using h4⟩
    · exact ⟨by simp; omega, by simpa using h2, by simp; omega, by simp; omega, by simpa using h4⟩
  · exact ⟨by simp; omega, by simpa using h2, by simp; omega, by simp; omega, by simpa using h4⟩
theorem release_asc {T : Tb} {now ses : Int} {reel : List UInt8} {fen : Int} (ha : Asc T.lea) : Asc (releaseT T now ses reel fen).lea := by
  unfold releaseT
  split
  · exact (toldT_asc ha now).sublist (List.eraseIdx_sublist _ _)
  · exact toldT_asc ha now
theorem release_len (T : Tb) (now ses : Int) (reel : List UInt8) (fen : Int) : (releaseT T now ses reel fen).lea.length ≤ T.lea.length ∧ (releaseT T now ses reel fen).ses = T.ses ∧ (releaseT T now ses reel fen).lf = T.lf ∧ (releaseT T now ses reel fen).ls = T.ls := by
  obtain ⟨h1, h2, h3, h4⟩ := toldT_len T now
  unfold releaseT
  split
  · exact ⟨Nat.le_trans (List.length_eraseIdx_le _ _) h1, h2, h3, h4⟩
  · exact ⟨h1, h2, h3, h4⟩
end Go.Proofs.YtneiljaknmeagaaGreatDoor
