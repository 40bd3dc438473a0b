/-
  What the methods keep of a sound table. Without conditions.
-/
import Derived.Test.YtneiljaknmeagaaGreatDoorBl
import Derived.Test.YtneiljaknmeagaaGreatDoorRj
import Derived.Test.YtneiljaknmeagaaGreatDoorRf
import Derived.Test.YtneiljaknmeagaaGreatDoorBj
namespace Go.Proofs.YtneiljaknmeagaaGreatDoor
open Go.RowKit Go.Joins
set_option linter.unusedVariables false
set_option linter.unusedSimpArgs false
theorem ascR_iff : ∀ {L : List Ls}, AscR L ↔ Asc L
  | [] => ⟨fun _ => List.Pairwise.nil, fun _ => trivial⟩
  | x :: r => by
    unfold AscR Asc
    rw [List.pairwise_cons]
    exact and_congr Iff.rfl (ascR_iff (L := r))
theorem ascI_iff : ∀ {S : List Int}, AscI S ↔ S.Pairwise (· < ·)
  | [] => ⟨fun _ => List.Pairwise.nil, fun _ => trivial⟩
  | x :: r => by
    unfold AscI
    rw [List.pairwise_cons]
    exact and_congr Iff.rfl (ascI_iff (S := r))
theorem Snd.nodup {T : Tb} (h : Snd T) : T.ses.Nodup := (ascI_iff.1 h.asc).imp (fun h => by omega)
theorem Snd.asc2 {T : Tb} (h : Snd T) : Asc T.lea := ascR_iff.1 h.ord
theorem told_snd {T : Tb} {now : Int} (h : Snd T) : Snd (toldT T now) := by
  unfold toldT
  split
  · rename_i h0
    obtain ⟨h1, h2, h3⟩ := toldE_zero h0
    refine ⟨⟨h1, h2⟩, h.ls, h.lf, h.slen, Nat.le_trans (alive_len _ _) h.llen, h.ses, h.asc, fun x hx => ?_, ascR_iff.2 (alive_asc h.asc2 now), h.fen.filter _⟩
    obtain ⟨g1, g2⟩ := List.mem_filter.1 hx
    obtain ⟨k1, k2, k3, k4, k5, k6⟩ := h.lea x g1
    exact ⟨k1, k2, k3, k4, of_decide_eq_true g2, show x.unt ≤ now + 600 by omega⟩
  · exact h
/-- A table on the way: sound, its numbers at most k. -/
structure InvP (k : Nat) (T : Tb) : Prop where
  snd : Snd T
  ls : T.ls ≤ k
  lf : T.lf ≤ k
theorem InvP.zero : InvP 0 tb0 := ⟨⟨by decide, by decide, by decide, by decide, by decide, (fun n hn => by cases hn), trivial, (fun x hx => by cases hx), trivial, List.Pairwise.nil⟩, by decide, by decide⟩
theorem InvP.told {k : Nat} {T : Tb} {now : Int} (h : InvP k T) : InvP k (toldT T now) := by
  obtain ⟨_, _, h2, h3⟩ := toldT_len T now
  exact ⟨told_snd h.snd, by rw [h3]; exact h.ls, by rw [h2]; exact h.lf⟩
theorem InvP.mono {k : Nat} {T : Tb} (h : InvP k T) : InvP (k + 1) T := ⟨h.snd, by have := h.ls; omega, by have := h.lf; omega⟩
theorem InvP.opened {k : Nat} {T : Tb} {now : Int} (h : InvP k T) (hk : k ≤ 100) : InvP (k + 1) (openR T now).1 := by
  have hU := h.told (now := now)
  unfold openR
  generalize toldT T now = U at *
  split
  · split
    · exact hU.mono
    · rename_i h8
      have hls := hU.ls
      have hl0 := hU.snd.ls.1
      have hm : mId = 1099511627776 := rfl
      refine ⟨⟨hU.snd.now, ⟨by show 0 ≤ U.ls + 1; omega, by show U.ls + 1 ≤ mId; rw [hm]; omega⟩, hU.snd.lf, by show (U.ses ++ [U.ls + 1]).length ≤ 8; rw [List.length_append, List.length_singleton]; omega, hU.snd.llen, ?_, ?_, ?_, hU.snd.ord, hU.snd.fen⟩, by show U.ls + 1 ≤ ((k + 1 : Nat) : Int); omega, by have := hU.lf; show U.lf ≤ ((k + 1 : Nat) : Int); omega⟩
      · intro n hn
        rcases List.mem_append.1 hn with hn | hn
        · have := hU.snd.ses n hn
          exact ⟨this.1, show n ≤ U.ls + 1 by omega⟩
        · rw [List.mem_singleton.1 hn]
          exact ⟨by omega, Int.le_refl _⟩
      · refine ascI_snoc.2 ⟨hU.snd.asc, fun n hn => ?_⟩
        have := hU.snd.ses n hn
        omega
      · intro x hx
        obtain ⟨k1, k2, k3, k4, k5, k6⟩ := hU.snd.lea x hx
        exact ⟨k1, List.mem_append_left _ k2, k3, k4, k5, k6⟩
  · exact hU.mono
theorem InvP.closed {k : Nat} {T : Tb} {now ses : Int} (h : InvP k T) : InvP (k + 1) (closeR T now ses).1 := by
  have hU := h.told (now := now)
  unfold closeR
  generalize toldT T now = U at *
  split
  · split
    · refine InvP.mono ⟨⟨hU.snd.now, hU.snd.ls, hU.snd.lf, Nat.le_trans (List.length_filter_le _ _) hU.snd.slen, Nat.le_trans (List.length_filter_le _ _) hU.snd.llen, fun n hn => hU.snd.ses n (List.mem_filter.1 hn).1, ascI_iff.2 ((ascI_iff.1 hU.snd.asc).filter _), fun x hx => ?_, ascR_iff.2 (hU.snd.asc2.filter _), hU.snd.fen.filter _⟩, hU.ls, hU.lf⟩
      obtain ⟨g1, g2⟩ := List.mem_filter.1 hx
      obtain ⟨k1, k2, k3, k4, k5, k6⟩ := hU.snd.lea x g1
      exact ⟨k1, List.mem_filter.2 ⟨k2, g2⟩, k3, k4, k5, k6⟩
    · exact hU.mono
  · exact hU.mono
theorem InvP.released {k : Nat} {T : Tb} {now ses fen : Int} {reel : List UInt8} (h : InvP k T) : InvP (k + 1) (releaseT T now ses reel fen) := by
  have hU := h.told (now := now)
  unfold releaseT
  generalize heldK T now ses reel fen = j
  generalize toldT T now = U at *
  split
  · have hs := List.eraseIdx_sublist U.lea j
    refine InvP.mono ⟨⟨hU.snd.now, hU.snd.ls, hU.snd.lf, hU.snd.slen, Nat.le_trans hs.length_le hU.snd.llen, hU.snd.ses, hU.snd.asc, fun x hx => hU.snd.lea x (hs.subset hx), ascR_iff.2 (hU.snd.asc2.sublist hs), hU.snd.fen.sublist hs⟩, hU.ls, hU.lf⟩
  · exact hU.mono
theorem told_now {T : Tb} {now : Int} (h : toldE T now = 0) : (toldT T now).now = now := by
  unfold toldT
  rw [if_pos h]
theorem InvP.taken {k : Nat} {T : Tb} {now ses : Int} {reel : List UInt8} (h : InvP k T) (hk : k ≤ 100) : InvP (k + 1) (takeR T now ses reel).1 := by
  have hU := h.told (now := now)
  have hasc := take_asc (T := T) (now := now) (ses := ses) (reel := reel) h.snd.asc2
  have hnow := told_now (T := T) (now := now)
  unfold takeR at hasc ⊢
  generalize toldT T now = U at *
  split
  · rename_i h0
    have hn := hnow h0
    rw [if_pos h0] at hasc
    split
    · rename_i h1
      rw [if_pos h1] at hasc
      split
      · rename_i h2
        rw [if_pos h2] at hasc
        split
        · split
          · exact hU.mono
          · exact hU.mono
        · rename_i h3
          rw [if_neg h3] at hasc
          split
          · exact hU.mono
          · rename_i h4
            rw [if_neg h4] at hasc
            have hlf := hU.lf
            have hl0 := hU.snd.lf.1
            have hm : mId = 1099511627776 := rfl
            have hmem : ∀ x, x ∈ takeL U ses reel now → x ∈ U.lea ∨ x = ⟨reel, ses, U.lf + 1, now + 600⟩ := fun x hx => by
              unfold takeL at hx
              rcases List.mem_append.1 hx with hx | hx
              · exact .inl (List.mem_of_mem_take hx)
              · rcases List.mem_cons.1 hx with hx | hx
                · exact .inr hx
                · exact .inl (List.mem_of_mem_drop hx)
            refine ⟨⟨hU.snd.now, hU.snd.ls, ⟨by show 0 ≤ U.lf + 1; omega, by show U.lf + 1 ≤ mId; rw [hm]; omega⟩, hU.snd.slen, ?_, hU.snd.ses, hU.snd.asc, ?_, ascR_iff.2 hasc, ?_⟩, by have := hU.ls; show U.ls ≤ ((k + 1 : Nat) : Int); omega, by show U.lf + 1 ≤ ((k + 1 : Nat) : Int); omega⟩
            · show (takeL U ses reel now).length ≤ 16
              unfold takeL
              rw [List.length_append, List.length_cons, List.length_take, List.length_drop]
              have := fpos_le reel U.lea
              omega
            · intro x hx
              rcases hmem x hx with hx | rfl
              · obtain ⟨k1, k2, k3, k4, k5, k6⟩ := hU.snd.lea x hx
                exact ⟨k1, k2, k3, show x.fen ≤ U.lf + 1 by omega, k5, k6⟩
              · exact ⟨h2, h1, show (1 : Int) ≤ U.lf + 1 by omega, Int.le_refl _, show U.now < now + 600 by omega, show now + 600 ≤ U.now + 600 by omega⟩
            · show (takeL U ses reel now).Pairwise _
              unfold takeL
              have hp := List.pairwise_append.1 (by rw [List.take_append_drop (fpos reel U.lea) U.lea]; exact hU.snd.fen)
              have hne : ∀ x ∈ U.lea, x.fen ≠ U.lf + 1 := fun x hx => by
                have := (hU.snd.lea x hx).2.2.2.1
                omega
              refine List.pairwise_append.2 ⟨hp.1, List.pairwise_cons.2 ⟨fun y hy => Ne.symm (hne y (List.mem_of_mem_drop hy)), hp.2.1⟩, fun a ha b hb => ?_⟩
              rcases List.mem_cons.1 hb with rfl | hb
              · exact hne a (List.mem_of_mem_take ha)
              · exact hp.2.2 a ha b hb
      · exact hU.mono
    · exact hU.mono
  · exact hU.mono
theorem set_map {α : Type} (f : Ls → α) : ∀ {L : List Ls} {k : Nat} {x y : Ls}, L[k]? = some x → f y = f x → (L.set k y).map f = L.map f
  | [], k, x, y, h, _ => by simp at h
  | a :: r, 0, x, y, h, e => by simp at h; subst h; simp [e]
  | a :: r, k + 1, x, y, h, e => by rw [List.set_cons_succ, List.map_cons, List.map_cons, set_map f (by simpa using h) e]
theorem InvP.renewed {k : Nat} {T : Tb} {now ses fen : Int} {reel : List UInt8} (h : InvP k T) : InvP (k + 1) (renewT T now ses reel fen) := by
  have hU := h.told (now := now)
  have hnow := told_now (T := T) (now := now)
  have hz := heldE_zero (T := T) (now := now) (ses := ses) (reel := reel) (fen := fen)
  unfold renewT
  generalize heldK T now ses reel fen = j at *
  generalize toldT T now = U at *
  split
  · rename_i h0
    obtain ⟨h1, x, hx, hr, hs, hf⟩ := hz h0
    have hn := hnow h1
    have hxm := hU.snd.lea x (List.mem_of_getElem? hx)
    refine InvP.mono ⟨⟨hU.snd.now, hU.snd.ls, hU.snd.lf, hU.snd.slen, by show (U.lea.set j _).length ≤ 16; rw [List.length_set]; exact hU.snd.llen, hU.snd.ses, hU.snd.asc, fun y hy => ?_, ascR_iff.2 ?_, ?_⟩, hU.ls, hU.lf⟩
    · rcases List.mem_or_eq_of_mem_set hy with hy | rfl
      · exact hU.snd.lea y hy
      · obtain ⟨k1, k2, k3, k4, k5, k6⟩ := hxm
        rw [hr] at k1
        rw [hs] at k2
        rw [hf] at k3 k4
        exact ⟨k1, k2, k3, k4, show U.now < now + 600 by omega, show now + 600 ≤ U.now + 600 by omega⟩
    · have ha := hU.snd.asc2
      unfold Asc at ha ⊢
      have e1 : ∀ {L : List Ls}, (L.Pairwise fun x y => cmpB x.reel y.reel < 0) ↔ (L.map Ls.reel).Pairwise (fun a b => cmpB a b < 0) := fun {L} => (List.pairwise_map (f := Ls.reel) (R := fun a b => cmpB a b < 0)).symm
      rw [e1] at ha
      refine e1.2 ?_
      rw [set_map Ls.reel hx hr.symm]
      exact ha
    · have e1 : ∀ {L : List Ls}, (L.Pairwise fun x y => x.fen ≠ y.fen) ↔ (L.map Ls.fen).Pairwise (fun a b => a ≠ b) := fun {L} => (List.pairwise_map (f := Ls.fen) (R := fun a b => a ≠ b)).symm
      refine e1.2 ?_
      rw [set_map Ls.fen hx hf.symm]
      exact e1.1 hU.snd.fen
  · exact hU.mono
end Go.Proofs.YtneiljaknmeagaaGreatDoor
