/-
  The search for a reel: its order, and the contract of BinarySearchFunc and of find. Their conditions are their hypotheses.
-/
import Derived.Test.YtneiljaknmeagaaGreatDoorK4
namespace Go.Proofs.YtneiljaknmeagaaGreatDoor
open Go.RowKit Go.Joins
set_option linter.unusedVariables false
set_option linter.unusedSimpArgs false
abbrev cmpB := Lib.compareBytes
theorem cmp_self : ∀ a : List UInt8, cmpB a a = 0
  | [] => rfl
  | x :: r => by
    show (if x < x then (-1 : Int) else if x < x then 1 else cmpB r r) = 0
    rw [if_neg (UInt8.lt_irrefl x), if_neg (UInt8.lt_irrefl x)]
    exact cmp_self r
theorem cmp_zero : ∀ {a b : List UInt8}, cmpB a b = 0 → a = b
  | [], [], _ => rfl
  | [], _ :: _, h => by cases h
  | _ :: _, [], h => by cases h
  | x :: r, y :: t, h => by
    have h' : (if x < y then (-1 : Int) else if y < x then 1 else cmpB r t) = 0 := h
    split at h'
    · cases h'
    · split at h'
      · cases h'
      · rename_i h1 h2
        rw [cmp_zero h', UInt8.le_antisymm (UInt8.not_lt.1 h2) (UInt8.not_lt.1 h1)]
theorem cmp_trans : ∀ {a b c : List UInt8}, cmpB a b < 0 → cmpB b c < 0 → cmpB a c < 0
  | [], [], _, h, _ => by cases h
  | [], _ :: _, [], _, h => by cases h
  | [], _ :: _, _ :: _, _, _ => by show (-1 : Int) < 0; decide
  | _ :: _, [], _, h, _ => by cases h
  | _ :: _, _ :: _, [], _, h => by cases h
  | x :: r, y :: t, z :: u, h, k => by
    have h' : (if x < y then (-1 : Int) else if y < x then 1 else cmpB r t) < 0 := h
    have k' : (if y < z then (-1 : Int) else if z < y then 1 else cmpB t u) < 0 := k
    show (if x < z then (-1 : Int) else if z < x then 1 else cmpB r u) < 0
    simp only [UInt8.lt_iff_toNat_lt] at *
    split at h'
    · split at k'
      · rw [if_pos (by omega)]; decide
      · split at k'
        · cases k'
        · rw [if_pos (by omega)]; decide
    · split at h'
      · cases h'
      · split at k'
        · rw [if_pos (by omega)]; decide
        · split at k'
          · cases k'
          · rw [if_neg (by omega), if_neg (by omega)]
            exact cmp_trans h' k'
theorem cmp_anti : ∀ (a b : List UInt8), cmpB a b = - cmpB b a
  | [], [] => rfl
  | [], _ :: _ => rfl
  | _ :: _, [] => rfl
  | x :: r, y :: t => by
    show (if x < y then (-1 : Int) else if y < x then 1 else cmpB r t) = - (if y < x then (-1 : Int) else if x < y then 1 else cmpB t r)
    simp only [UInt8.lt_iff_toNat_lt]
    split
    · rw [if_neg (by omega)]
    · split
      · rfl
      · exact cmp_anti r t
/-- The leases stand in ascending order of their reels. -/
def Asc (L : List Ls) : Prop := L.Pairwise fun x y => cmpB x.reel y.reel < 0
theorem Asc.get {L : List Ls} (h : Asc L) {i j : Nat} {x y : Ls} (hij : i < j) (hx : L[i]? = some x) (hy : L[j]? = some y) : cmpB x.reel y.reel < 0 := by
  obtain ⟨hi, rfl⟩ := List.getElem?_eq_some_iff.1 hx
  obtain ⟨hj, rfl⟩ := List.getElem?_eq_some_iff.1 hy
  exact List.pairwise_iff_getElem.1 h i j hi hj hij
/-- Where a reel's lease is, or belongs. -/
def fpos (name : List UInt8) : List Ls → Nat
  | [] => 0
  | x :: r => if cmpB x.reel name < 0 then fpos name r + 1 else 0
def fhas (name : List UInt8) (L : List Ls) : Bool := match L[fpos name L]? with
  | some x => decide (x.reel = name)
  | none => false
theorem fpos_le (name : List UInt8) : ∀ L : List Ls, fpos name L ≤ L.length
  | [] => Nat.le_refl _
  | x :: r => by
    rw [fpos]
    split
    · have := fpos_le name r; simp; omega
    · simp
theorem fpos_of {name : List UInt8} : ∀ {L : List Ls} {i : Nat}, i ≤ L.length → (∀ m x, m < i → L[m]? = some x → cmpB x.reel name < 0) → (∀ x, L[i]? = some x → 0 ≤ cmpB x.reel name) → fpos name L = i
  | [], i, h, _, _ => by simp at h; rw [h]; rfl
  | x :: r, 0, _, _, h => by
    have := h x rfl
    rw [fpos, if_neg (by omega)]
  | x :: r, i + 1, h, h1, h2 => by
    rw [fpos, if_pos (h1 0 x (by omega) rfl), fpos_of (L := r) (by simpa using h) (fun m y hm hy => h1 (m + 1) y (by omega) (by simpa using hy)) (fun y hy => h2 y (by simpa using hy))]
theorem findf_any (x : Ls) (name : List UInt8) (w : World) :
    Calls Tryz.prog 69 #[lsA x, .string (sB name)] w fun e w' => e = .returned (.int .i64 (cmpB x.reel name)) ∧ Below w.heap.size w w' := by
  unfold lsA
  go_enter Tryz.func69, Tryz.ntmps69
  go_wp2_with (go_at_call 70; refine (Tryz.strings_Compare _ _ _).mono ?_; rintro e w' ⟨rfl, rfl⟩)
  go_ret
  exact ⟨rfl, below_one _ _⟩
def FindP (L : List Ls) (name : List UInt8) (w : World) (e : Ending) (w' : World) : Prop :=
  e = .returned (.tuple #[.int .i64 (fpos name L : Nat), .bool (fhas name L)]) ∧ Below w.heap.size w w'
set_option maxRecDepth 100000 in
set_option maxHeartbeats 1000000 in
theorem bsearch_any (A : Option Addr) (c : Nat) (L : List Ls) (name : List UInt8) (w : World) (h : LeasAt w A L) (hs : Asc L) (hl : L.length ≤ 1000) :
    Calls Tryz.prog 68 #[.slice A L.length c, .string (sB name), .func (.func 69) #[] #[]] w (FindP L name w) := by
  have H := Lib.hid h
  have HS := Lib.hid hs
  obtain ⟨D, hD⟩ : ∃ D, D = w.heap.size := ⟨_, rfl⟩
  have HD := Lib.hid hD
  clear h hs hD
  go_enter Tryz.func68, Tryz.ntmps68
  go_wp2_with fail
  go_loopw [9, 10] (fun a b wr => ∃ i j : Nat, i ≤ j ∧ j ≤ L.length ∧ a = .int .i64 i ∧ b = .int .i64 j ∧ Hid (∀ m x, m < i → L[m]? = some x → cmpB x.reel name < 0) ∧ Hid (∀ m x, j ≤ m → L[m]? = some x → 0 ≤ cmpB x.reel name) ∧ Hid (Below D w wr)) (fun a b _ => (intOf b).toNat - (intOf a).toNat)
  case atStart => exact ⟨0, L.length, by omega, by omega, rfl, rfl, Lib.hid (fun m x hm => by omega), Lib.hid (fun m x hm hx => by have := (List.getElem?_eq_some_iff.1 hx).1; omega), Lib.hid (Below.refl _ _)⟩
  case round =>
    obtain ⟨i, j, hij, hj, rfl, rfl, HI, HJ, G⟩ := hrel
    by_cases hlt : i < j
    · have hlt2 : (i : Int) < (j : Int) := by omega
      obtain ⟨h, hh⟩ : ∃ h : Nat, ((i : Int) + (j : Int)) / 2 = h := ⟨(i + j) / 2, by omega⟩
      have hh1 : i ≤ h := by omega
      have hh2 : h < j := by omega
      have hh3 : h < L.length := by omega
      have hh4 : (h : Int) < (L.length : Int) := by omega
      obtain ⟨x, hx⟩ : ∃ x, L[h]? = some x := ⟨_, List.getElem?_eq_getElem hh3⟩
      have HX := Lib.hid hx
      have HRw := H.out.below (HD.out ▸ G.out) (Nat.le_refl _)
      obtain ⟨g, o, rfl⟩ := LeasAt.some HRw hx
      obtain ⟨q0, q1, q2, q3⟩ := LeasAt.get HRw hx
      clear HRw hx
      go_wp2_with fail
      refine (findf_any x name _).mono ?_
      rintro e w5 ⟨rfl, hb⟩
      have G5 := Lib.hid (G.out.trans (hb.mono (by have := G.out.size; have := HD.out; omega)))
      clear hb q0 q1 q2 q3
      generalize hk : cmpB x.reel name = t at *
      by_cases ht : t < 0
      · have HI5 := Lib.hid (show ∀ m y, m < h + 1 → L[m]? = some y → cmpB y.reel name < 0 by
          intro m y hm hy
          by_cases e : m = h
          · subst e
            rw [HX.out] at hy
            cases hy
            omega
          · exact cmp_trans (HS.out.get (by omega) hy HX.out) (by rw [hk]; exact ht))
        clear hk hh
        go_wp2_with fail
        go_roundw
        case rel => exact ⟨h + 1, j, by omega, by omega, by go_num, rfl, HI5, HJ, G5⟩
        case measure => simp [intOf]; omega
      · have HJ5 := Lib.hid (show ∀ m y, h ≤ m → L[m]? = some y → 0 ≤ cmpB y.reel name by
          intro m y hm hy
          by_cases e : m = h
          · subst e
            rw [HX.out] at hy
            cases hy
            omega
          · by_cases hz : cmpB y.reel name < 0
            · have := cmp_trans (HS.out.get (by omega) HX.out hy) hz
              omega
            · omega)
        clear hk hh
        go_wp2_with fail
        go_roundw
        case rel => exact ⟨i, h, by omega, by omega, rfl, rfl, HI, HJ5, G5⟩
        case measure => simp [intOf]; omega
    · obtain rfl : i = j := by omega
      have HF := Lib.hid (fpos_of hj HI.out (fun x hx => HJ.out i x (Nat.le_refl _) hx))
      by_cases hi : i < L.length
      · have hi2 : (i : Int) < (L.length : Int) := by omega
        obtain ⟨x, hx⟩ : ∃ x, L[i]? = some x := ⟨_, List.getElem?_eq_getElem hi⟩
        have HX := Lib.hid hx
        have HRw := H.out.below (HD.out ▸ G.out) (Nat.le_refl _)
        obtain ⟨g, o, rfl⟩ := LeasAt.some HRw hx
        obtain ⟨q0, q1, q2, q3⟩ := LeasAt.get HRw hx
        clear HRw hx
        go_wp2_with fail
        refine (findf_any x name _).mono ?_
        rintro e w5 ⟨rfl, hb⟩
        have G5 := Lib.hid (G.out.trans (hb.mono (by have := G.out.size; have := HD.out; omega)))
        have HB := Lib.hid (show fhas name L = (cmpB x.reel name == 0) by
          unfold fhas
          rw [HF.out, HX.out]
          by_cases e : x.reel = name
          · simp [e, cmp_self]
          · have : cmpB x.reel name ≠ 0 := fun h0 => e (cmp_zero h0)
            simp [e, this])
        clear hb q0 q1 q2 q3
        go_wp2_with fail
        go_ret2
        exact ⟨by rw [HF.out, HB.out]; rfl, HD.out ▸ G5.out⟩
      · have hi2 : ¬ (i : Int) < (L.length : Int) := by omega
        have HB := Lib.hid (show fhas name L = false by
          unfold fhas
          rw [HF.out, List.getElem?_eq_none (by omega)])
        go_wp2_with fail
        go_ret2
        exact ⟨by rw [HF.out, HB.out]; rfl, HD.out ▸ G.out⟩
theorem find_any (B p : Nat) (sv lv : Value) (T : Tb) (name : List UInt8) (w : World) (h : Rep B p sv lv T w) (hs : Asc T.lea) (hl : T.lea.length ≤ 1000) :
    Calls Tryz.prog 46 #[.pointer (some ⟨p, 0, none⟩), .string (sB name)] w (FindP T.lea name w) := by
  have q := h.block.cell
  have hpw := h.lt
  obtain ⟨A, c, rfl, hr, _, _, hfl⟩ := row_of_ownK h.2.2.2
  have HB := Lib.hid (bsearch_any A c T.lea name w hr hs hl)
  generalize T.lea = L at *
  clear hfl hr h hs
  go_enter Tryz.func46, Tryz.ntmps46
  go_wp2_with fail
  refine HB.out.mono ?_
  rintro e w' ⟨rfl, hb⟩
  have G := Lib.hid hb
  clear hb
  go_wp2_with fail
  go_ret2
  exact ⟨rfl, G.out⟩
end Go.Proofs.YtneiljaknmeagaaGreatDoor
