/-
  Searching, names and the order of strings. The conditions of the contracts are their hypotheses.
-/
import Derived.Test.YtneiljaknmeagaaGreatDoorBc
namespace Go.Proofs.YtneiljaknmeagaaGreatDoor
open Go.RowKit Go.Joins
set_option linter.unusedVariables false
set_option linter.unusedSimpArgs false
theorem mem_take_succ {α : Type} {xs : List α} {k : Nat} {u v : α} (hk : xs[k]? = some u) : v ∈ xs.take (k + 1) ↔ v ∈ xs.take k ∨ v = u := by
  rw [List.take_add_one, hk]
  simp
def IdxP (xs : List Int) (v : Int) (w : World) (e : Ending) (w' : World) : Prop :=
  ((∃ k, xs[k]? = some v ∧ v ∉ xs.take k ∧ e = .returned (.int .i64 (k : Nat))) ∨ (v ∉ xs ∧ e = .returned (.int .i64 (-1)))) ∧ w = w'
theorem index_any (A : Option Addr) (c : Nat) (xs : List Int) (v : Int) (w : World) (h : IntsAt w A xs) (hl : xs.length ≤ 9223372036854775807) :
    Calls Tryz.prog 62 #[.slice A xs.length c, .int .i64 v] w (IdxP xs v w) := by
  have H := Lib.hid h
  clear h
  go_enter Tryz.func62, Tryz.ntmps62
  go_wp2_with fail
  go_loop [8] (fun i => ∃ k : Nat, k ≤ xs.length ∧ i = .int .i64 k ∧ Hid (v ∉ xs.take k)) (fun i => xs.length - (intOf i).toNat)
  case atStart => exact ⟨0, by omega, rfl, Lib.hid (by simp)⟩
  case round =>
    obtain ⟨k, hk, rfl, HN⟩ := hrel
    by_cases hlt : k < xs.length
    · have hlt2 : (k : Int) < (xs.length : Int) := by omega
      obtain ⟨b, o, rfl, hc⟩ := H.out.get hlt
      have HX := Lib.hid (show xs[k]? = some (xs.getD k 0) by simp [hlt])
      generalize xs.getD k 0 = u at *
      by_cases hv : v = u
      · have HE := Lib.hid (show IdxP xs v w (.returned (.int .i64 k)) w from ⟨.inl ⟨k, by rw [HX.out, hv], HN.out, rfl⟩, rfl⟩)
        have t1 : (v == u) = true := by simpa using hv
        clear hv
        go_wp2_with fail
        go_ret
        exact HE.out
      · have t1 : (v == u) = false := by simpa using hv
        have HM := Lib.hid (show v ∉ xs.take (k + 1) by rw [mem_take_succ HX.out]; simp [HN.out, hv])
        clear hv
        go_wp2_with fail
        go_round
        case rel => exact ⟨k + 1, by omega, by go_num, HM⟩
        case measure => simp [intOf]; omega
    · obtain rfl : k = xs.length := by omega
      have HE := Lib.hid (show IdxP xs v w (.returned (.int .i64 (-1))) w from ⟨.inr ⟨by have := HN.out; rwa [List.take_length] at this, rfl⟩, rfl⟩)
      clear hlt
      go_wp2_with fail
      go_ret
      exact HE.out
theorem contains_any (A : Option Addr) (c : Nat) (xs : List Int) (v : Int) (w : World) (h : IntsAt w A xs) (hl : xs.length ≤ 9223372036854775807) {b : Bool} (hb : b = decide (v ∈ xs)) :
    Calls Tryz.prog 48 #[.slice A xs.length c, .int .i64 v] w fun e w' => e = .returned (.bool b) ∧ w = w' := by
  have HI := Lib.hid (index_any A c xs v w h hl)
  have HB := Lib.hid hb
  clear h hb
  go_enter Tryz.func48, Tryz.ntmps48
  go_wp2_with fail
  refine HI.out.mono ?_
  rintro e w' ⟨h1, rfl⟩
  rcases h1 with ⟨k, hk, hn, rfl⟩ | ⟨hn, rfl⟩
  · have HT := Lib.hid (show b = true by rw [HB.out]; exact decide_eq_true (List.mem_of_getElem? hk))
    have t1 : (0 : Int) ≤ (k : Int) := by omega
    clear hk hn
    go_wp2_with fail
    go_ret
    exact ⟨by rw [HT.out]; rfl, rfl⟩
  · have HT := Lib.hid (show b = false by rw [HB.out]; exact decide_eq_false hn)
    clear hn
    go_wp2_with fail
    go_ret
    exact ⟨by rw [HT.out]; rfl, rfl⟩
end Go.Proofs.YtneiljaknmeagaaGreatDoor
namespace Go.Proofs.YtneiljaknmeagaaGreatDoor
open Go.RowKit Go.Joins
set_option linter.unusedVariables false
set_option linter.unusedSimpArgs false
def bt (s : ByteArray) (j : Nat) : UInt8 := s.data.toList.getD j 0
theorem idx_str {s : ByteArray} {x : Int} {j : Nat} (hx : x = j) (hj : j < s.size) (w : World) : (Instr.index 9 (.string s) (.int .i64 x)).run Tryz.prog w = .ok (.int .u8 (bt s j).toNat) w := by
  subst hx
  have e : bt s j = s[j] := by
    unfold bt
    rw [List.getD_eq_getElem?_getD, List.getElem?_eq_getElem (by simpa using hj)]
    rfl
  rw [e]
  simp [go_sem, hj]
theorem bt_get {s : ByteArray} {j : Nat} (hj : j < s.size) : s.data.toList[j]? = some (bt s j) := by
  unfold bt
  rw [List.getD_eq_getElem?_getD, List.getElem?_eq_getElem (by simpa using hj)]
  rfl
/-- A byte of a name. -/
def nmC (b : UInt8) : Bool := (decide (65 ≤ b.toNat) && decide (b.toNat ≤ 90)) || (decide (48 ≤ b.toNat) && decide (b.toNat ≤ 57)) || decide (b.toNat = 95) || decide (b.toNat = 45)
def nmH (l : List UInt8) : Bool := match l with
  | [] => false
  | b :: _ => decide (l.length ≤ 16) && decide (65 ≤ b.toNat) && decide (b.toNat ≤ 90)
def nmB (l : List UInt8) : Bool := nmH l && l.all nmC
theorem nmH_eq {s : ByteArray} (h : 0 < s.size) : nmH s.data.toList = (decide (s.size ≤ 16) && decide (65 ≤ (bt s 0).toNat) && decide ((bt s 0).toNat ≤ 90)) := by
  have h0 := bt_get h
  have hl : s.data.toList.length = s.size := by simp
  match hs : s.data.toList, h0 with
  | b :: r, h0 =>
    simp at h0
    rw [hs] at hl
    rw [nmH, hl, h0]
theorem all_take_succ {l : List UInt8} {k : Nat} {b : UInt8} {p : UInt8 → Bool} (hk : l[k]? = some b) : (l.take (k + 1)).all p = ((l.take k).all p && p b) := by
  rw [List.take_add_one, hk]
  simp
theorem name_no (s : ByteArray) (w : World) (h : nmH s.data.toList = false) :
    Calls Tryz.prog 49 #[.string s] w fun e w' => e = .returned (.bool false) ∧ w = w' := by
  by_cases h0 : 0 < s.size
  · rw [nmH_eq h0] at h
    have g0 : ¬ (s.size : Int) < 1 := by omega
    have ix := fun w' => idx_str (s := s) (x := 0) (j := 0) rfl h0 w'
    by_cases h1 : 16 < s.size
    · have g1 : (16 : Int) < s.size := by omega
      clear h
      go_enter Tryz.func49, Tryz.ntmps49
      go_wp2_with fail
      go_ret
      exact ⟨rfl, rfl⟩
    · have g1 : ¬ (16 : Int) < s.size := by omega
      by_cases h2 : (bt s 0).toNat < 65
      · have g2 : ((bt s 0).toNat : Int) < 65 := by omega
        clear h
        go_enter Tryz.func49, Tryz.ntmps49
        go_wp2_with fail
        go_ret
        exact ⟨rfl, rfl⟩
      · have g2 : ¬ ((bt s 0).toNat : Int) < 65 := by omega
        have g3 : (90 : Int) < ((bt s 0).toNat : Int) := by
          simp only [Bool.and_eq_false_iff, decide_eq_false_iff_not] at h
          omega
        clear h
        go_enter Tryz.func49, Tryz.ntmps49
        go_wp2_with fail
        go_ret
        exact ⟨rfl, rfl⟩
  · have g0 : (s.size : Int) < 1 := by omega
    clear h
    go_enter Tryz.func49, Tryz.ntmps49
    go_wp2_with fail
    go_ret
    exact ⟨rfl, rfl⟩
theorem nmC_iff (b : UInt8) : nmC b = true ↔ (65 ≤ b.toNat ∧ b.toNat ≤ 90) ∨ (48 ≤ b.toNat ∧ b.toNat ≤ 57) ∨ b.toNat = 95 ∨ b.toNat = 45 := by
  unfold nmC
  simp only [Bool.or_eq_true, Bool.and_eq_true, decide_eq_true_eq]
  omega
theorem name_yes (s : ByteArray) (w : World) (h : nmH s.data.toList = true) :
    Calls Tryz.prog 49 #[.string s] w fun e w' => e = .returned (.bool (s.data.toList.all nmC)) ∧ w = w' := by
  have h0 : 0 < s.size := by
    by_cases h0 : 0 < s.size
    · exact h0
    · have : s.data.toList = [] := List.eq_nil_of_length_eq_zero (by
        have : s.data.toList.length = s.size := by simp
        omega)
      rw [this] at h
      cases h
  rw [nmH_eq h0] at h
  simp only [Bool.and_eq_true, decide_eq_true_eq] at h
  obtain ⟨⟨h1, h2⟩, h3⟩ := h
  have g0 : ¬ (s.size : Int) < 1 := by omega
  have g1 : ¬ (16 : Int) < s.size := by omega
  have g2 : ¬ ((bt s 0).toNat : Int) < 65 := by omega
  have g3 : ¬ (90 : Int) < ((bt s 0).toNat : Int) := by omega
  have ix := fun w' => idx_str (s := s) (x := 0) (j := 0) rfl h0 w'
  obtain ⟨l, hl⟩ : ∃ l, l = s.data.toList := ⟨_, rfl⟩
  have HL := Lib.hid hl
  have HLN := Lib.hid (show l.length = s.size by rw [hl]; simp)
  rw [← hl]
  clear hl
  go_enter Tryz.func49, Tryz.ntmps49
  go_wp2_with fail
  clear ix
  go_loop [25] (fun i => ∃ k : Nat, k ≤ s.size ∧ i = .int .i64 k ∧ Hid ((l.take k).all nmC = true)) (fun i => s.size - (intOf i).toNat)
  case atStart => exact ⟨0, by omega, rfl, Lib.hid (by simp)⟩
  case round =>
    obtain ⟨k, hk, rfl, HA⟩ := hrel
    by_cases hlt : k < s.size
    · have hlt2 : (k : Int) < (s.size : Int) := by omega
      have ix := fun w' => idx_str (s := s) (x := (k : Int)) (j := k) rfl hlt w'
      have hb8 := (bt s k).toNat_lt
      have HB := Lib.hid (show l[k]? = some (bt s k) by rw [HL.out]; exact bt_get hlt)
      generalize bt s k = b at *
      have HC := Lib.hid (nmC_iff b)
      rcases (show (65 ≤ b.toNat ∧ b.toNat ≤ 90) ∨ (48 ≤ b.toNat ∧ b.toNat ≤ 57) ∨ (b.toNat = 95) ∨ (b.toNat = 45) ∨ (b.toNat < 48 ∧ b.toNat ≠ 45) ∨ (57 < b.toNat ∧ b.toNat < 65) ∨ (90 < b.toNat ∧ b.toNat ≠ 95) by omega) with hc | hc | hc | hc | hc | hc | hc
      · have i0 : (65 : Int) ≤ (b.toNat : Int) := by omega
        have i1 : (b.toNat : Int) ≤ 90 := by omega
        have HS := Lib.hid (show (l.take (k + 1)).all nmC = true by rw [all_take_succ HB.out, HA.out, HC.out.2 (by omega)]; rfl)
        clear hc
        go_wp2_with fail
        go_round
        case rel => exact ⟨k + 1, by omega, by go_num, HS⟩
        case measure => simp [intOf]; omega
      · have i0 : (48 : Int) ≤ (b.toNat : Int) := by omega
        have i1 : (b.toNat : Int) ≤ 57 := by omega
        have HS := Lib.hid (show (l.take (k + 1)).all nmC = true by rw [all_take_succ HB.out, HA.out, HC.out.2 (by omega)]; rfl)
        clear hc
        go_wp2_with fail
        go_round
        case rel => exact ⟨k + 1, by omega, by go_num, HS⟩
        case measure => simp [intOf]; omega
      · have i0 : (90 : Int) < (b.toNat : Int) := by omega
        have t0 : ((b.toNat : Int) != 95) = false := by simp; omega
        have HS := Lib.hid (show (l.take (k + 1)).all nmC = true by rw [all_take_succ HB.out, HA.out, HC.out.2 (by omega)]; rfl)
        clear hc
        go_wp2_with fail
        go_round
        case rel => exact ⟨k + 1, by omega, by go_num, HS⟩
        case measure => simp [intOf]; omega
      · have i0 : (b.toNat : Int) < 48 := by omega
        have t0 : ((b.toNat : Int) != 95) = true := by simp; omega
        have t1 : ((b.toNat : Int) != 45) = false := by simp; omega
        have HS := Lib.hid (show (l.take (k + 1)).all nmC = true by rw [all_take_succ HB.out, HA.out, HC.out.2 (by omega)]; rfl)
        clear hc
        go_wp2_with fail
        go_round
        case rel => exact ⟨k + 1, by omega, by go_num, HS⟩
        case measure => simp [intOf]; omega
      · have i0 : (b.toNat : Int) < 48 := by omega
        have t0 : ((b.toNat : Int) != 95) = true := by simp; omega
        have t1 : ((b.toNat : Int) != 45) = true := by simp; omega
        have HS := Lib.hid (show l.all nmC = false by
          rw [List.all_eq_false]
          exact ⟨b, List.mem_of_getElem? HB.out, fun e => by have := HC.out.1 e; omega⟩)
        clear hc
        go_wp2_with fail
        go_ret
        exact ⟨by rw [HS.out]; rfl, rfl⟩
      · have i0 : (57 : Int) < (b.toNat : Int) := by omega
        have i1 : (b.toNat : Int) < 65 := by omega
        have t0 : ((b.toNat : Int) != 95) = true := by simp; omega
        have t1 : ((b.toNat : Int) != 45) = true := by simp; omega
        have HS := Lib.hid (show l.all nmC = false by
          rw [List.all_eq_false]
          exact ⟨b, List.mem_of_getElem? HB.out, fun e => by have := HC.out.1 e; omega⟩)
        clear hc
        go_wp2_with fail
        go_ret
        exact ⟨by rw [HS.out]; rfl, rfl⟩
      · have i0 : (90 : Int) < (b.toNat : Int) := by omega
        have t0 : ((b.toNat : Int) != 95) = true := by simp; omega
        have t1 : ((b.toNat : Int) != 45) = true := by simp; omega
        have HS := Lib.hid (show l.all nmC = false by
          rw [List.all_eq_false]
          exact ⟨b, List.mem_of_getElem? HB.out, fun e => by have := HC.out.1 e; omega⟩)
        clear hc
        go_wp2_with fail
        go_ret
        exact ⟨by rw [HS.out]; rfl, rfl⟩
    · obtain rfl : k = s.size := by omega
      have HE := Lib.hid (show l.all nmC = true by
        have := HA.out
        rwa [List.take_of_length_le (by rw [HLN.out]; exact Nat.le_refl _)] at this)
      clear hlt
      go_wp2_with fail
      go_ret
      exact ⟨by rw [HE.out]; rfl, rfl⟩
theorem name_any (s : ByteArray) (w : World) :
    Calls Tryz.prog 49 #[.string s] w fun e w' => e = .returned (.bool (nmB s.data.toList)) ∧ w = w' := by
  unfold nmB
  cases h : nmH s.data.toList with
  | false => exact name_no s w h
  | true => rw [Bool.true_and]; exact name_yes s w h
end Go.Proofs.YtneiljaknmeagaaGreatDoor
namespace Go.Proofs.YtneiljaknmeagaaGreatDoor
open Go.RowKit Go.Joins
set_option linter.unusedVariables false
set_option linter.unusedSimpArgs false
abbrev cmpB := Lib.compareBytes
theorem cmp_self : ∀ a : List UInt8, cmpB a a = 0
  | [] => rfl
  | x :: r => by
    show (if x < x then (-1 : Int) else if x < x then 1 else cmpB r r) = 0
    rw [if_neg (UInt8.lt_irrefl x), if_neg (UInt8.lt_irrefl x)]
    exact cmp_self r
theorem cmp_zero : ∀ {a b : List UInt8}, cmpB a b = 0 → a = b
  | [], [], _ => rfl
  | [], _ :: _, h => by cases h
  | _ :: _, [], h => by cases h
  | x :: r, y :: t, h => by
    have h' : (if x < y then (-1 : Int) else if y < x then 1 else cmpB r t) = 0 := h
    split at h'
    · cases h'
    · split at h'
      · cases h'
      · rename_i h1 h2
        rw [cmp_zero h', UInt8.le_antisymm (UInt8.not_lt.1 h2) (UInt8.not_lt.1 h1)]
theorem cmp_trans : ∀ {a b c : List UInt8}, cmpB a b < 0 → cmpB b c < 0 → cmpB a c < 0
  | [], [], _, h, _ => by cases h
  | [], _ :: _, [], _, h => by cases h
  | [], _ :: _, _ :: _, _, _ => by show (-1 : Int) < 0; decide
  | _ :: _, [], _, h, _ => by cases h
  | _ :: _, _ :: _, [], _, h => by cases h
  | x :: r, y :: t, z :: u, h, k => by
    have h' : (if x < y then (-1 : Int) else if y < x then 1 else cmpB r t) < 0 := h
    have k' : (if y < z then (-1 : Int) else if z < y then 1 else cmpB t u) < 0 := k
    show (if x < z then (-1 : Int) else if z < x then 1 else cmpB r u) < 0
    simp only [UInt8.lt_iff_toNat_lt] at *
    split at h'
    · split at k'
      · rw [if_pos (by omega)]; decide
      · split at k'
        · cases k'
        · rw [if_pos (by omega)]; decide
    · split at h'
      · cases h'
      · split at k'
        · rw [if_pos (by omega)]; decide
        · split at k'
          · cases k'
          · rw [if_neg (by omega), if_neg (by omega)]
            exact cmp_trans h' k'
theorem cmp_anti : ∀ (a b : List UInt8), cmpB a b = - cmpB b a
  | [], [] => rfl
  | [], _ :: _ => rfl
  | _ :: _, [] => rfl
  | x :: r, y :: t => by
    show (if x < y then (-1 : Int) else if y < x then 1 else cmpB r t) = - (if y < x then (-1 : Int) else if x < y then 1 else cmpB t r)
    simp only [UInt8.lt_iff_toNat_lt]
    split
    · rw [if_neg (by omega)]
    · split
      · rfl
      · exact cmp_anti r t
/-- The leases stand in ascending order of their reels. -/
def Asc (L : List Ls) : Prop := L.Pairwise fun x y => cmpB x.reel y.reel < 0
theorem Asc.get {L : List Ls} (h : Asc L) {i j : Nat} {x y : Ls} (hij : i < j) (hx : L[i]? = some x) (hy : L[j]? = some y) : cmpB x.reel y.reel < 0 := by
  obtain ⟨hi, rfl⟩ := List.getElem?_eq_some_iff.1 hx
  obtain ⟨hj, rfl⟩ := List.getElem?_eq_some_iff.1 hy
  exact List.pairwise_iff_getElem.1 h i j hi hj hij
/-- Where a reel's lease is, or belongs. -/
def fpos (name : List UInt8) : List Ls → Nat
  | [] => 0
  | x :: r => if cmpB x.reel name < 0 then fpos name r + 1 else 0
def fhas (name : List UInt8) (L : List Ls) : Bool := match L[fpos name L]? with
  | some x => decide (x.reel = name)
  | none => false
theorem fpos_le (name : List UInt8) : ∀ L : List Ls, fpos name L ≤ L.length
  | [] => Nat.le_refl _
  | x :: r => by
    rw [fpos]
    split
    · have := fpos_le name r; simp; omega
    · simp
theorem fpos_of {name : List UInt8} : ∀ {L : List Ls} {i : Nat}, i ≤ L.length → (∀ m x, m < i → L[m]? = some x → cmpB x.reel name < 0) → (∀ x, L[i]? = some x → 0 ≤ cmpB x.reel name) → fpos name L = i
  | [], i, h, _, _ => by simp at h; rw [h]; rfl
  | x :: r, 0, _, _, h => by
    have := h x rfl
    rw [fpos, if_neg (by omega)]
  | x :: r, i + 1, h, h1, h2 => by
    rw [fpos, if_pos (h1 0 x (by omega) rfl), fpos_of (L := r) (by simpa using h) (fun m y hm hy => h1 (m + 1) y (by omega) (by simpa using hy)) (fun y hy => h2 y (by simpa using hy))]
theorem findf_any (x : Ls) (name : List UInt8) (w : World) :
    Calls Tryz.prog 69 #[lsA x, .string (sB name)] w fun e w' => e = .returned (.int .i64 (cmpB x.reel name)) ∧ Below w.heap.size w w' := by
  unfold lsA
  go_enter Tryz.func69, Tryz.ntmps69
  go_wp2_with (go_at_call 70; refine (Tryz.strings_Compare _ _ _).mono ?_; rintro e w' ⟨rfl, rfl⟩)
  go_ret
  exact ⟨rfl, below_one _ _⟩
def FindP (L : List Ls) (name : List UInt8) (w : World) (e : Ending) (w' : World) : Prop :=
  e = .returned (.tuple #[.int .i64 (fpos name L : Nat), .bool (fhas name L)]) ∧ Below w.heap.size w w'
set_option maxRecDepth 100000 in
set_option maxHeartbeats 1000000 in
theorem bsearch_any (A : Option Addr) (c : Nat) (L : List Ls) (name : List UInt8) (w : World) (h : LeasAt w A L) (hs : Asc L) (hl : L.length ≤ 1000) :
    Calls Tryz.prog 68 #[.slice A L.length c, .string (sB name), .func (.func 69) #[] #[]] w (FindP L name w) := by
  have H := Lib.hid h
  have HS := Lib.hid hs
  obtain ⟨D, hD⟩ : ∃ D, D = w.heap.size := ⟨_, rfl⟩
  have HD := Lib.hid hD
  clear h hs hD
  go_enter Tryz.func68, Tryz.ntmps68
  go_wp2_with fail
  go_loopw [9, 10] (fun a b wr => ∃ i j : Nat, i ≤ j ∧ j ≤ L.length ∧ a = .int .i64 i ∧ b = .int .i64 j ∧ Hid (∀ m x, m < i → L[m]? = some x → cmpB x.reel name < 0) ∧ Hid (∀ m x, j ≤ m → L[m]? = some x → 0 ≤ cmpB x.reel name) ∧ Hid (Below D w wr)) (fun a b _ => (intOf b).toNat - (intOf a).toNat)
  case atStart => exact ⟨0, L.length, by omega, by omega, rfl, rfl, Lib.hid (fun m x hm => by omega), Lib.hid (fun m x hm hx => by have := (List.getElem?_eq_some_iff.1 hx).1; omega), Lib.hid (Below.refl _ _)⟩
  case round =>
    obtain ⟨i, j, hij, hj, rfl, rfl, HI, HJ, G⟩ := hrel
    by_cases hlt : i < j
    · have hlt2 : (i : Int) < (j : Int) := by omega
      obtain ⟨h, hh⟩ : ∃ h : Nat, ((i : Int) + (j : Int)) / 2 = h := ⟨(i + j) / 2, by omega⟩
      have hh1 : i ≤ h := by omega
      have hh2 : h < j := by omega
      have hh3 : h < L.length := by omega
      have hh4 : (h : Int) < (L.length : Int) := by omega
      obtain ⟨x, hx⟩ : ∃ x, L[h]? = some x := ⟨_, List.getElem?_eq_getElem hh3⟩
      have HX := Lib.hid hx
      have HRw := H.out.below (HD.out ▸ G.out) (Nat.le_refl _)
      obtain ⟨g, o, rfl⟩ := LeasAt.some HRw hx
      obtain ⟨q0, q1, q2, q3⟩ := LeasAt.get HRw hx
      clear HRw hx
      go_wp2_with fail
      refine (findf_any x name _).mono ?_
      rintro e w5 ⟨rfl, hb⟩
      have G5 := Lib.hid (G.out.trans (hb.mono (by have := G.out.size; have := HD.out; omega)))
      clear hb q0 q1 q2 q3
      generalize hk : cmpB x.reel name = t at *
      by_cases ht : t < 0
      · have HI5 := Lib.hid (show ∀ m y, m < h + 1 → L[m]? = some y → cmpB y.reel name < 0 by
          intro m y hm hy
          by_cases e : m = h
          · subst e
            rw [HX.out] at hy
            cases hy
            omega
          · exact cmp_trans (HS.out.get (by omega) hy HX.out) (by rw [hk]; exact ht))
        clear hk hh
        go_wp2_with fail
        go_roundw
        case rel => exact ⟨h + 1, j, by omega, by omega, by go_num, rfl, HI5, HJ, G5⟩
        case measure => simp [intOf]; omega
      · have HJ5 := Lib.hid (show ∀ m y, h ≤ m → L[m]? = some y → 0 ≤ cmpB y.reel name by
          intro m y hm hy
          by_cases e : m = h
          · subst e
            rw [HX.out] at hy
            cases hy
            omega
          · by_cases hz : cmpB y.reel name < 0
            · have := cmp_trans (HS.out.get (by omega) HX.out hy) hz
              omega
            · omega)
        clear hk hh
        go_wp2_with fail
        go_roundw
        case rel => exact ⟨i, h, by omega, by omega, rfl, rfl, HI, HJ5, G5⟩
        case measure => simp [intOf]; omega
    · obtain rfl : i = j := by omega
      have HF := Lib.hid (fpos_of hj HI.out (fun x hx => HJ.out i x (Nat.le_refl _) hx))
      by_cases hi : i < L.length
      · have hi2 : (i : Int) < (L.length : Int) := by omega
        obtain ⟨x, hx⟩ : ∃ x, L[i]? = some x := ⟨_, List.getElem?_eq_getElem hi⟩
        have HX := Lib.hid hx
        have HRw := H.out.below (HD.out ▸ G.out) (Nat.le_refl _)
        obtain ⟨g, o, rfl⟩ := LeasAt.some HRw hx
        obtain ⟨q0, q1, q2, q3⟩ := LeasAt.get HRw hx
        clear HRw hx
        go_wp2_with fail
        refine (findf_any x name _).mono ?_
        rintro e w5 ⟨rfl, hb⟩
        have G5 := Lib.hid (G.out.trans (hb.mono (by have := G.out.size; have := HD.out; omega)))
        have HB := Lib.hid (show fhas name L = (cmpB x.reel name == 0) by
          unfold fhas
          rw [HF.out, HX.out]
          by_cases e : x.reel = name
          · simp [e, cmp_self]
          · have : cmpB x.reel name ≠ 0 := fun h0 => e (cmp_zero h0)
            simp [e, this])
        clear hb q0 q1 q2 q3
        go_wp2_with fail
        go_ret2
        exact ⟨by rw [HF.out, HB.out]; rfl, HD.out ▸ G5.out⟩
      · have hi2 : ¬ (i : Int) < (L.length : Int) := by omega
        have HB := Lib.hid (show fhas name L = false by
          unfold fhas
          rw [HF.out, List.getElem?_eq_none (by omega)])
        go_wp2_with fail
        go_ret2
        exact ⟨by rw [HF.out, HB.out]; rfl, HD.out ▸ G.out⟩
theorem find_any (B p : Nat) (sv lv : Value) (T : Tb) (name : List UInt8) (w : World) (h : Rep B p sv lv T w) (hs : Asc T.lea) (hl : T.lea.length ≤ 1000) :
    Calls Tryz.prog 46 #[.pointer (some ⟨p, 0, none⟩), .string (sB name)] w (FindP T.lea name w) := by
  have q := h.block.cell
  have hpw := h.lt
  obtain ⟨A, c, rfl, hr, _, _, hfl⟩ := row_of_ownK h.2.2.2
  have HB := Lib.hid (bsearch_any A c T.lea name w hr hs hl)
  generalize T.lea = L at *
  clear hfl hr h hs
  go_enter Tryz.func46, Tryz.ntmps46
  go_wp2_with fail
  refine HB.out.mono ?_
  rintro e w' ⟨rfl, hb⟩
  have G := Lib.hid hb
  clear hb
  go_wp2_with fail
  go_ret2
  exact ⟨rfl, G.out⟩
end Go.Proofs.YtneiljaknmeagaaGreatDoor
