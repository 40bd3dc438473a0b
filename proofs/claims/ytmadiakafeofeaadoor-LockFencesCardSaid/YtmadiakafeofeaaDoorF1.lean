/-
  Fences in plain words: what a round of Take, Check and Holder finds. Without conditions.
-/
import Derived.Test.YtmadiakafeofeaaDoorK8
import Derived.Test.YtmadiakafeofeaaDoorM6
namespace Go.Proofs.YtmadiakafeofeaaDoor
open Go.RowKit Go.Joins
set_option linter.unusedVariables false
set_option linter.unusedSimpArgs false
theorem fhas_no {L : List Ls} {reel : List UInt8} (ha : Asc L) (hh : fhas reel L = false) {x : Ls} (hx : x ∈ L) : x.reel ≠ reel := by
  obtain ⟨m, hm⟩ := List.mem_iff_getElem?.1 hx
  intro e
  rcases Nat.lt_or_ge m (fpos reel L) with h | h
  · have := fpos_lt h hm
    rw [e, cmp_self] at this
    omega
  · have := fpos_gt ha hh h hm
    rw [e, cmp_self] at this
    omega
/-- The last fence of each reel. -/
abbrev Last := List UInt8 → Option (Int × Int)
structure InvF (k : Nat) (T : Tb) (F : Last) : Prop where
  ses : T.ses = [1, 2, 3]
  asc : Asc T.lea
  len : T.lea.length ≤ k
  lea : ∀ x ∈ T.lea, F x.reel = some (x.ses, x.fen) ∧ 1 ≤ x.ses ∧ x.ses ≤ 3
  fen : ∀ key a b, F key = some (a, b) → 1 ≤ b ∧ b ≤ T.lf
  lf0 : 0 ≤ T.lf
  lfk : T.lf ≤ k
  ls : T.ls = 3
/-- Every lease lasts yet, and the time is taken. -/
def Live (T : Tb) (now : Int) : Prop := T.now = now ∧ ∀ x ∈ T.lea, now < x.unt
theorem alive_mem {now : Int} {L : List Ls} {x : Ls} (h : x ∈ alive now L) : x ∈ L ∧ now < x.unt := by
  unfold alive at h
  rw [List.mem_filter] at h
  exact ⟨h.1, by simpa using h.2⟩
theorem alive_all {now : Int} {L : List Ls} (h : ∀ x ∈ L, now < x.unt) : alive now L = L := by
  unfold alive
  rw [List.filter_eq_self]
  intro x hx
  simpa using h x hx
theorem told_ok2 {T : Tb} {s : Int} (h0 : 0 ≤ s) (h1 : s ≤ 10378368000) (h2 : T.now ≤ s) : toldE T s = 0 ∧ toldT T s = { T with now := s, lea := alive s T.lea } := by
  have e : toldE T s = 0 := by
    unfold toldE
    rw [if_neg (by omega), if_neg (by omega)]
  refine ⟨e, ?_⟩
  unfold toldT
  rw [if_pos e]
theorem told_live {T : Tb} {now : Int} (h : Live T now) (h0 : 0 ≤ now) (h1 : now ≤ 10378368000) : toldE T now = 0 ∧ toldT T now = T := by
  obtain ⟨e1, e2⟩ := told_ok2 (T := T) h0 h1 (Int.le_of_eq h.1)
  refine ⟨e1, ?_⟩
  rw [e2, alive_all h.2, ← h.1]
theorem inv_told {k : Nat} {T : Tb} {F : Last} {now : Int} (h : InvF k T F) : InvF k { T with now := now, lea := alive now T.lea } F ∧ Live { T with now := now, lea := alive now T.lea } now := by
  refine ⟨⟨h.ses, alive_asc h.asc now, Nat.le_trans (alive_len now T.lea) h.len, fun x hx => h.lea x (alive_mem hx).1, h.fen, h.lf0, h.lfk, h.ls⟩, rfl, fun x hx => (alive_mem hx).2⟩
theorem live_held {T : Tb} {now s f : Int} {reel : List UInt8} (hl : Live T now) (h0 : 0 ≤ now) (h1 : now ≤ 10378368000) {x : Ls} (hh : fhas reel T.lea = true) (hx : T.lea[fpos reel T.lea]? = some x) :
    heldE T now s reel f = if x.ses = s ∧ x.fen = f then 0 else 18 := by
  obtain ⟨e1, e2⟩ := told_live hl h0 h1
  unfold heldE
  rw [e1, e2, if_pos rfl]
  unfold heldI
  rw [if_pos hh, hx]
  by_cases h2 : x.ses = s
  · by_cases h3 : x.fen = f
    · simp [h2, h3]
    · simp [h2, h3]
  · simp [h2]
theorem live_none {T : Tb} {now s f : Int} {reel : List UInt8} (hl : Live T now) (h0 : 0 ≤ now) (h1 : now ≤ 10378368000) (hh : fhas reel T.lea = false) : heldE T now s reel f = 18 := by
  obtain ⟨e1, e2⟩ := told_live hl h0 h1
  unfold heldE
  rw [e1, e2, if_pos rfl]
  unfold heldI
  rw [if_neg (by simp [hh])]
theorem live_hold {T : Tb} {now : Int} {reel : List UInt8} (hl : Live T now) {x : Ls} (hh : fhas reel T.lea = true) (hx : T.lea[fpos reel T.lea]? = some x) : holdV T now reel = (x, true) := by
  unfold holdV
  rw [if_pos hh, hx]
  have := hl.2 x (List.mem_of_getElem? hx)
  simp only []
  rw [if_neg (by omega)]
theorem none_hold {T : Tb} {now : Int} {reel : List UInt8} (hh : fhas reel T.lea = false) : holdV T now reel = (ls0, false) := by
  unfold holdV
  rw [if_neg (by simp [hh])]
def setF (F : Last) (reel : List UInt8) (v : Int × Int) : Last := fun key => if key = reel then some v else F key
/-- What Take finds: refused and nothing new, or a new fence. -/
theorem take_cases {k : Nat} {T : Tb} {F : Last} {now s : Int} {reel : List UInt8} (h : InvF k T F) (h0 : 0 ≤ now) (h1 : now ≤ 10378368000) (h2 : T.now ≤ now) :
    (∃ e, (e == (0 : Int)) = false ∧ takeR T now s reel = ({ T with now := now, lea := alive now T.lea }, 0, e)) ∨
    ∃ T', takeR T now s reel = (T', T.lf + 1, 0) ∧ s ∈ ([1, 2, 3] : List Int) ∧ InvF (k + 1) T' (setF F reel (s, T.lf + 1)) ∧ Live T' now ∧ T'.lf = T.lf + 1 ∧ (∀ a b, F reel = some (a, b) → heldE T' now a reel b = 18) := by
  obtain ⟨e1, e2⟩ := told_ok2 (T := T) h0 h1 h2
  obtain ⟨hi, hv⟩ := inv_told (now := now) h
  unfold takeR
  rw [e1, e2, if_pos rfl]
  generalize hU : ({ T with now := now, lea := alive now T.lea } : Tb) = U at *
  have hUl : U.lf = T.lf := by rw [← hU]
  by_cases hs : s ∈ U.ses
  · rw [if_pos hs]
    by_cases hn : nmB reel = true
    · rw [if_pos hn]
      by_cases hh : fhas reel U.lea = true
      · rw [if_pos hh]
        split
        · exact .inl ⟨7, by decide, rfl⟩
        · exact .inl ⟨18, by decide, rfl⟩
      · rw [if_neg hh]
        have hh' : fhas reel U.lea = false := by simpa using hh
        by_cases hf : 16 ≤ U.lea.length
        · rw [if_pos hf]
          exact .inl ⟨9, by decide, rfl⟩
        · rw [if_neg hf]
          right
          have hasc := ins_asc (x := ⟨reel, s, U.lf + 1, now + 600⟩) hi.asc hh'
          have hmem : ∀ x ∈ takeL U s reel now, x = ⟨reel, s, U.lf + 1, now + 600⟩ ∨ x ∈ U.lea := by
            intro x hx
            unfold takeL at hx
            rcases List.mem_append.1 hx with hx | hx
            · exact .inr (List.mem_of_mem_take hx)
            · rcases List.mem_cons.1 hx with hx | hx
              · exact .inl hx
              · exact .inr (List.mem_of_mem_drop hx)
          have hs3 : s ∈ ([1, 2, 3] : List Int) := by rw [← hi.ses]; exact hs
          have hlive : Live { U with lf := U.lf + 1, lea := takeL U s reel now } now := by
            refine ⟨hv.1, fun x hx => ?_⟩
            rcases hmem x hx with rfl | hx
            · show now < now + 600
              omega
            · exact hv.2 x hx
          refine ⟨{ U with lf := U.lf + 1, lea := takeL U s reel now }, by rw [hUl], hs3, ⟨hi.ses, hasc, ?_, ?_, ?_, ?_, ?_, hi.ls⟩, hlive, by rw [← hUl], ?_⟩
          · have := hi.len
            show (takeL U s reel now).length ≤ k + 1
            have hp := fpos_le reel U.lea
            simp [takeL]
            omega
          · intro x hx
            rcases hmem x hx with rfl | hx
            · refine ⟨by simp [setF, hUl], ?_⟩
              simp at hs3
              show 1 ≤ s ∧ s ≤ 3
              omega
            · have := hi.lea x hx
              refine ⟨?_, this.2⟩
              unfold setF
              rw [if_neg (fhas_no hi.asc hh' hx)]
              exact this.1
          · intro key a b hkey
            unfold setF at hkey
            show 1 ≤ b ∧ b ≤ U.lf + 1
            split at hkey
            · cases hkey
              have := hi.lf0
              omega
            · have := hi.fen key a b hkey
              omega
          · show 0 ≤ U.lf + 1
            have := hi.lf0
            omega
          · show U.lf + 1 ≤ ((k + 1 : Nat) : Int)
            have := hi.lfk
            omega
          · intro a b hab
            have hb := hi.fen reel a b hab
            have h1' : (takeL U s reel now)[fpos reel U.lea]? = some ⟨reel, s, U.lf + 1, now + 600⟩ := by
              have hp := fpos_le reel U.lea
              unfold takeL
              rw [List.getElem?_append_right (by simp; omega)]
              simp [Nat.min_eq_left hp]
            have h2' : fpos reel (takeL U s reel now) = fpos reel U.lea := by
              refine fpos_of (Nat.le_of_lt (List.getElem?_eq_some_iff.1 h1').1) ?_ ?_
              · intro m x hm hx
                refine fpos_lt (L := U.lea) hm ?_
                unfold takeL at hx
                rw [List.getElem?_append_left (by have := fpos_le reel U.lea; simp; omega), List.getElem?_take, if_pos hm] at hx
                exact hx
              · intro x hx
                rw [h1'] at hx
                cases hx
                rw [cmp_self]
                exact Int.le_refl _
            have h3' : fhas reel (takeL U s reel now) = true := by
              unfold fhas
              rw [h2', h1']
              simp
            rw [live_held hlive h0 h1 (x := ⟨reel, s, U.lf + 1, now + 600⟩) h3' (by show (takeL U s reel now)[fpos reel (takeL U s reel now)]? = _; rw [h2', h1']), if_neg]
            rintro ⟨_, hb2⟩
            have hb2 : U.lf + 1 = b := hb2
            omega
    · rw [if_neg hn]
      exact .inl ⟨5, by decide, rfl⟩
  · rw [if_neg hs]
    exact .inl ⟨6, by decide, rfl⟩
end Go.Proofs.YtmadiakafeofeaaDoor
