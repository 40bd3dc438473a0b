/-
  Reading a text of spans, in plain words. Without conditions.
-/
import Derived.Test.YtloioincminhiaaDoorT1
import Derived.Test.YtloioincminhiaaDoorNm
import Derived.Lib.ParseIntB
namespace Go.Proofs.YtloioincminhiaaDoor
set_option linter.unusedVariables false
set_option linter.unusedSimpArgs false
def okI : Lib.NumEnd Int → Option Int := fun r => match r with | .ok v => some v | _ => none
def wdV (w : List UInt8) : Option Spn := match okI (Lib.parseIntB 64 (cutC 45 w).1), okI (Lib.parseIntB 64 (cutC 45 w).2) with | some a, some b => some ⟨a, b⟩ | _, _ => none
def wdsA : List Spn → List (List UInt8) → Option (List Spn)
  | C, [] => some C
  | C, w :: r => match wdV w with | some x => wdsA (C ++ [x]) r | none => none
def prsV (s : List UInt8) : List Spn × Int := if s = [45] then ([], 0) else match wdsA [] (wordsC 44 s) with | some L => if (txtS L).2 = 0 ∧ (txtS L).1 = s then (L, 0) else ([], 4) | none => ([], 4)
theorem wdV_wdS {x : Spn} (h0 : 0 ≤ x.i) (h1 : x.i ≤ 10378368000) (h2 : 0 ≤ x.o) (h3 : x.o ≤ 10378368000) : wdV (wdS x) = some x := by
  have hn : (45 : UInt8) ∉ Lib.itoa x.i := by rw [itoa_dec h0]; exact dec_no (by decide)
  have hc : cutC 45 (wdS x) = (Lib.itoa x.i, Lib.itoa x.o) := by
    unfold wdS
    rw [List.append_assoc]
    exact cutC_cut hn
  unfold wdV
  rw [hc, parseInt_itoa (by omega) (by omega), parseInt_itoa (by omega) (by omega)]
  rfl
theorem wdsA_text : ∀ (L C : List Spn), (∀ x ∈ L, 0 ≤ x.i ∧ x.i ≤ 10378368000 ∧ 0 ≤ x.o ∧ x.o ≤ 10378368000) → wdsA C (L.map wdS) = some (C ++ L)
  | [], C, _ => by simp [wdsA]
  | x :: L, C, h => by
    obtain ⟨h0, h1, h2, h3⟩ := h x (List.mem_cons_self ..)
    have ih := wdsA_text L (C ++ [x]) (fun y hy => h y (List.mem_cons_of_mem _ hy))
    show (match wdV (wdS x) with | some y => wdsA (C ++ [y]) (L.map wdS) | none => none) = _
    rw [wdV_wdS h0 h1 h2 h3]
    show wdsA (C ++ [x]) (L.map wdS) = _
    rw [ih]
    simp
theorem comma_no {x : Spn} (h0 : 0 ≤ x.i) (h2 : 0 ≤ x.o) : (44 : UInt8) ∉ wdS x := by
  unfold wdS
  rw [itoa_dec h0, itoa_dec h2]
  intro h
  rcases List.mem_append.1 h with h | h
  · rcases List.mem_append.1 h with h | h
    · exact dec_no (by decide) h
    · simp at h
  · exact dec_no (by decide) h
theorem join_two (a b : List UInt8) (r : List (List UInt8)) (sep : List UInt8) : Lib.join (a :: b :: r) sep = a ++ sep ++ Lib.join (b :: r) sep := by
  rw [Lib.join_cons, Lib.join_cons]
  simp [Lib.joinTail]
theorem words_join : ∀ (ws : List (List UInt8)), ws ≠ [] → (∀ w ∈ ws, (44 : UInt8) ∉ w) → wordsC 44 (Lib.join ws [44]) = ws
  | [], h, _ => absurd rfl h
  | [a], _, h => by
    rw [Lib.join_one]
    exact wordsC_no (h a (List.mem_cons_self ..))
  | a :: b :: r, _, h => by
    have ih := words_join (b :: r) (by simp) (fun w hw => h w (List.mem_cons_of_mem _ hw))
    rw [join_two, List.append_assoc, List.singleton_append, wordsC_cut (h a (List.mem_cons_self ..)), ih]
theorem prs_text {L : List Spn} (h : (txtS L).2 = 0) : prsV (txtS L).1 = (L, 0) := by
  by_cases h0 : chkS L = 0
  · by_cases he : L.length = 0
    · have e : txtS L = ([45], 0) := by unfold txtS; rw [if_pos h0, if_pos he]
      rw [e]
      have : L = [] := List.eq_nil_of_length_eq_zero he
      rw [this]
      rfl
    · have e : txtS L = (Lib.join (L.map wdS) [44], 0) := by unfold txtS; rw [if_pos h0, if_neg he]
      have hb := chk_bd h0
      have hw : wordsC 44 (Lib.join (L.map wdS) [44]) = L.map wdS := words_join _ (by intro e; simp at e; rw [e] at he; exact he rfl) (fun w hw => by
        obtain ⟨x, hx, rfl⟩ := List.mem_map.1 hw
        exact comma_no (hb x hx).1 (hb x hx).2.2.1)
      have hne : Lib.join (L.map wdS) [44] ≠ [45] := by
        intro e2
        rw [e2] at hw
        have e3 : wordsC 44 [45] = [[45]] := by decide
        rw [e3] at hw
        cases L with
        | nil => exact he rfl
        | cons x r =>
          simp at hw
          have h1 := congrArg List.length hw.1
          have h2 := itoa_ne x.i
          unfold wdS at h1
          cases hi : Lib.itoa x.i with
          | nil => exact h2 hi
          | cons a b => rw [hi] at h1; simp at h1
      unfold prsV
      rw [e]
      dsimp only
      rw [if_neg hne, hw, wdsA_text L [] hb]
      simp only [List.nil_append]
      rw [if_pos ⟨by rw [e], by rw [e]⟩]
  · have e : txtS L = ([], chkS L) := by unfold txtS; rw [if_neg h0]
    rw [e] at h
    exact absurd h h0
theorem prs_empty : prsV [] = ([], 4) := by kernel_rfl
theorem prs_len {s : List UInt8} : (prsV s).1.length ≤ 400 := by
  unfold prsV
  split
  · simp
  · split
    · rename_i L hL
      split
      · rename_i h
        by_cases h0 : chkS L = 0
        · exact (chkS_ok.1 h0).1
        · have e : txtS L = ([], chkS L) := by unfold txtS; rw [if_neg h0]
          rw [e] at h
          exact absurd h.1 h0
      · simp
    · simp
end Go.Proofs.YtloioincminhiaaDoor
