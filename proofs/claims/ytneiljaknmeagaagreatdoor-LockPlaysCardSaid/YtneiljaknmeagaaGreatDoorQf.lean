/-
  The contracts of is and sound in the reference. Their conditions are their hypotheses.
-/
import Derived.Test.YtneiljaknmeagaaGreatDoorQd
import Derived.Test.YtneiljaknmeagaaGreatDoorQg
namespace Go.Proofs.YtneiljaknmeagaaGreatDoor
open Go.RowKit Go.Joins
set_option linter.unusedVariables false
set_option linter.unusedSimpArgs false
/-- The reference's table, its sessions in sv, its leases in lv. -/
def RefT (T : Tb) (sv lv : Value) (w : World) : Prop := (∃ A c, sv = .slice A T.ses.length c ∧ IntsAt w A T.ses) ∧ ∃ A c, lv = .slice A T.lea.length c ∧ LeasAt w A T.lea ∧ T.lea.length ≤ c ∧ c ≤ maxLen
theorem RefT.ext {T : Tb} {sv lv : Value} {w w' : World} (h : RefT T sv lv w) (hb : Below w.heap.size w w') : RefT T sv lv w' := by
  obtain ⟨⟨A, c, h1, h2⟩, A', c', h3, h4, h5⟩ := h
  exact ⟨⟨A, c, h1, h2.ext hb⟩, A', c', h3, RowAt.ext h4 hb, h5⟩
abbrev refV (T : Tb) (sv lv : Value) : Value := .agg #[.int .i64 T.now, .int .i64 T.ls, .int .i64 T.lf, sv, lv]
set_option maxHeartbeats 1000000 in
theorem is_any (T : Tb) (A : Option Addr) (c : Nat) (lv : Value) (n : Int) (w : World) (h : IntsAt w A T.ses) (hl : T.ses.length ≤ 100000) {b : Bool} (hb : b = decide (n ∈ T.ses)) :
    Calls Tryz.prog 58 #[refV T (.slice A T.ses.length c) lv, .int .i64 n] w fun e w' => e = .returned (.bool b) ∧ Below w.heap.size w w' := by
  have H := Lib.hid h
  have HB := Lib.hid hb
  generalize T.now = tn at *
  generalize T.ls = tl at *
  generalize T.lf = tf at *
  generalize T.ses = S at *
  obtain ⟨D, hD⟩ : ∃ D, D = w.heap.size := ⟨_, rfl⟩
  rw [← hD]
  clear h hb
  go_enter Tryz.func58, Tryz.ntmps58
  go_wp2_with fail
  rw [← hD]
  generalize hw1 : World.alloc _ _ = w1
  have G := Lib.hid (show Below D w w1 by subst hw1; rw [hD]; exact below_one _ _)
  have H := Lib.hid (H.out.below (hD ▸ G.out) (Nat.le_refl _))
  clear hw1 hD
  go_loop [10] (fun i => ∃ k : Nat, k ≤ S.length ∧ i = .int .i64 k ∧ Hid (n ∉ S.take k)) (fun i => S.length - (intOf i).toNat)
  case atStart => exact ⟨0, by omega, rfl, Lib.hid (by simp)⟩
  case round =>
    obtain ⟨k, hk, rfl, HN⟩ := hrel
    by_cases hlt : k < S.length
    · have hlt2 : (k : Int) < (S.length : Int) := by omega
      obtain ⟨b0, o, rfl, hc⟩ := H.out.get hlt
      have HX := Lib.hid (show S[k]? = some (S.getD k 0) by simp [hlt])
      generalize S.getD k 0 = u at *
      by_cases hv : u = n
      · have HE := Lib.hid (show b = true by rw [HB.out]; exact decide_eq_true (List.mem_of_getElem? (hv ▸ HX.out)))
        have t1 : (u == n) = true := by simpa using hv
        clear hv
        go_wp2_with fail
        go_ret
        exact ⟨by rw [HE.out]; rfl, G.out⟩
      · have t1 : (u == n) = false := by simpa using hv
        have HM := Lib.hid (show n ∉ S.take (k + 1) by rw [mem_take_succ HX.out]; simp [HN.out, Ne.symm hv])
        clear hv
        go_wp2_with fail
        go_round
        case rel => exact ⟨k + 1, by omega, by go_num, HM⟩
        case measure => simp [intOf]; omega
    · obtain rfl : k = S.length := by omega
      have HE := Lib.hid (show b = false by rw [HB.out]; have := HN.out; rw [List.take_length] at this; exact decide_eq_false this)
      clear hlt
      go_wp2_with fail
      go_ret
      exact ⟨by rw [HE.out]; rfl, G.out⟩
/-- What sound finds. -/
def SndP (T : Tb) (w : World) (e : Ending) (w' : World) : Prop := (∃ b, e = .returned (.bool b) ∧ ((b = true ∧ Snd T) ∨ (b = false ∧ ¬ Snd T))) ∧ Below w.heap.size w w'
theorem heads (T : Tb) : (10378368000 < T.now) ∨ (T.now ≤ 10378368000 ∧ 1099511627776 < T.ls) ∨ (T.now ≤ 10378368000 ∧ T.ls ≤ 1099511627776 ∧ 1099511627776 < T.lf) ∨ (T.now ≤ 10378368000 ∧ T.ls ≤ 1099511627776 ∧ T.lf ≤ 1099511627776 ∧ 8 < T.ses.length) ∨ (T.now ≤ 10378368000 ∧ T.ls ≤ 1099511627776 ∧ T.lf ≤ 1099511627776 ∧ T.ses.length ≤ 8 ∧ 16 < T.lea.length) ∨ (T.now ≤ 10378368000 ∧ T.ls ≤ 1099511627776 ∧ T.lf ≤ 1099511627776 ∧ T.ses.length ≤ 8 ∧ T.lea.length ≤ 16) := by omega
theorem yield_of {l : List Oper} {ev : Nat → Value} {j d : Nat} {b : Bool} (hd : dstOf l j = some d) (hv : ev d = .bool b) : yieldedEv l ev j = some b := by
  unfold yieldedEv
  rw [hd]
  simp only [hv]
theorem yield_un {l : List Oper} {ev : Nat → Value} {j d : Nat} (hd : dstOf l j = some d) (hv : ev d = undef) : yieldedEv l ev j = none := by
  unfold yieldedEv
  rw [hd]
  simp only [hv]
  rfl
theorem kept_all {l : List Oper} {s : Nat} (h : (List.range l.length).all (fun j => dstOf l j != some s) = true) : ∀ j, dstOf l j ≠ some s := fun j hj => by
  rcases Nat.lt_or_ge j l.length with h' | h'
  · have := List.all_eq_true.1 h j (List.mem_range.2 h')
    rw [hj] at this
    simp at this
  · simp [dstOf, List.getElem?_eq_none h'] at hj
def PhiSndY (X B g o m k ln c' : Nat) (xr yr : List UInt8) (xs xf xu tn tl tf : Int) (sv : Value) (nm pk le is f1 f2 u1 u2 : Bool) : Nat → Value → Prop
  | 73, v => v = .pointer (some ⟨X, 0, none⟩)
  | 74, v => v = .string (sB xr)
  | 75, v => v = .bool nm
  | 76, v => v = .bool (!nm)
  | 77, v => v = .bool (!nm)
  | 78, v => ((!nm) = false → v = .int .i64 (k : Int)) ∧ (¬ ((!nm) = false) → v = undef)
  | 79, v => ((!nm) = false → v = .bool (pk)) ∧ (¬ ((!nm) = false) → v = undef)
  | 80, v => ((!nm) = false → v = .bool (pk)) ∧ (¬ ((!nm) = false) → v = undef)
  | 81, v => ((pk = true) ∧ ((!nm) = false) → v = .pointer (some ⟨X, 0, none⟩)) ∧ (¬ ((pk = true) ∧ ((!nm) = false)) → v = undef)
  | 82, v => ((pk = true) ∧ ((!nm) = false) → v = .string (sB xr)) ∧ (¬ ((pk = true) ∧ ((!nm) = false)) → v = undef)
  | 83, v => ((pk = true) ∧ ((!nm) = false) → v = .pointer (some ⟨B, 4, none⟩)) ∧ (¬ ((pk = true) ∧ ((!nm) = false)) → v = undef)
  | 84, v => ((pk = true) ∧ ((!nm) = false) → v = .slice (some ⟨g, o, none⟩) ln c') ∧ (¬ ((pk = true) ∧ ((!nm) = false)) → v = undef)
  | 85, v => ((pk = true) ∧ ((!nm) = false) → v = .int .i64 (k : Int)) ∧ (¬ ((pk = true) ∧ ((!nm) = false)) → v = undef)
  | 86, v => ((pk = true) ∧ ((!nm) = false) → v = .int .i64 (m : Int)) ∧ (¬ ((pk = true) ∧ ((!nm) = false)) → v = undef)
  | 87, v => ((pk = true) ∧ ((!nm) = false) → v = .pointer (some ⟨g, o + m * 4, none⟩)) ∧ (¬ ((pk = true) ∧ ((!nm) = false)) → v = undef)
  | 88, v => ((pk = true) ∧ ((!nm) = false) → v = .pointer (some ⟨g, o + m * 4, none⟩)) ∧ (¬ ((pk = true) ∧ ((!nm) = false)) → v = undef)
  | 89, v => ((pk = true) ∧ ((!nm) = false) → v = .string (sB yr)) ∧ (¬ ((pk = true) ∧ ((!nm) = false)) → v = undef)
  | 90, v => ((pk = true) ∧ ((!nm) = false) → v = .bool (le)) ∧ (¬ ((pk = true) ∧ ((!nm) = false)) → v = undef)
  | 91, v => ((!nm) = false → v = .bool (pk && le)) ∧ (¬ ((!nm) = false) → v = undef)
  | 92, v => v = .bool ((!nm) || (pk && le))
  | 93, v => v = .bool ((!nm) || (pk && le))
  | 94, v => (((!nm) || (pk && le)) = false → v = .agg #[.int .i64 tn, .int .i64 tl, .int .i64 tf, sv, .slice (some ⟨g, o, none⟩) ln c']) ∧ (¬ (((!nm) || (pk && le)) = false) → v = undef)
  | 95, v => (((!nm) || (pk && le)) = false → v = .pointer (some ⟨X, 1, none⟩)) ∧ (¬ (((!nm) || (pk && le)) = false) → v = undef)
  | 96, v => (((!nm) || (pk && le)) = false → v = .int .i64 xs) ∧ (¬ (((!nm) || (pk && le)) = false) → v = undef)
  | 97, v => (((!nm) || (pk && le)) = false → v = .bool is) ∧ (¬ (((!nm) || (pk && le)) = false) → v = undef)
  | 98, v => (((!nm) || (pk && le)) = false → v = .bool (!is)) ∧ (¬ (((!nm) || (pk && le)) = false) → v = undef)
  | 99, v => v = .bool (((!nm) || (pk && le)) || (!is))
  | 100, v => v = .bool (((!nm) || (pk && le)) || (!is))
  | 101, v => ((((!nm) || (pk && le)) || (!is)) = false → v = .pointer (some ⟨X, 2, none⟩)) ∧ (¬ ((((!nm) || (pk && le)) || (!is)) = false) → v = undef)
  | 102, v => ((((!nm) || (pk && le)) || (!is)) = false → v = .int .i64 xf) ∧ (¬ ((((!nm) || (pk && le)) || (!is)) = false) → v = undef)
  | 103, v => ((((!nm) || (pk && le)) || (!is)) = false → v = .bool (f1)) ∧ (¬ ((((!nm) || (pk && le)) || (!is)) = false) → v = undef)
  | 104, v => v = .bool ((((!nm) || (pk && le)) || (!is)) || f1)
  | 105, v => v = .bool ((((!nm) || (pk && le)) || (!is)) || f1)
  | 106, v => (((((!nm) || (pk && le)) || (!is)) || f1) = false → v = .pointer (some ⟨X, 2, none⟩)) ∧ (¬ (((((!nm) || (pk && le)) || (!is)) || f1) = false) → v = undef)
  | 107, v => (((((!nm) || (pk && le)) || (!is)) || f1) = false → v = .int .i64 xf) ∧ (¬ (((((!nm) || (pk && le)) || (!is)) || f1) = false) → v = undef)
  | 108, v => (((((!nm) || (pk && le)) || (!is)) || f1) = false → v = .pointer (some ⟨B, 2, none⟩)) ∧ (¬ (((((!nm) || (pk && le)) || (!is)) || f1) = false) → v = undef)
  | 109, v => (((((!nm) || (pk && le)) || (!is)) || f1) = false → v = .int .i64 tf) ∧ (¬ (((((!nm) || (pk && le)) || (!is)) || f1) = false) → v = undef)
  | 110, v => (((((!nm) || (pk && le)) || (!is)) || f1) = false → v = .bool (f2)) ∧ (¬ (((((!nm) || (pk && le)) || (!is)) || f1) = false) → v = undef)
  | 111, v => v = .bool (((((!nm) || (pk && le)) || (!is)) || f1) || f2)
  | 112, v => v = .bool (((((!nm) || (pk && le)) || (!is)) || f1) || f2)
  | 113, v => ((((((!nm) || (pk && le)) || (!is)) || f1) || f2) = false → v = .pointer (some ⟨X, 3, none⟩)) ∧ (¬ ((((((!nm) || (pk && le)) || (!is)) || f1) || f2) = false) → v = undef)
  | 114, v => ((((((!nm) || (pk && le)) || (!is)) || f1) || f2) = false → v = .int .i64 xu) ∧ (¬ ((((((!nm) || (pk && le)) || (!is)) || f1) || f2) = false) → v = undef)
  | 115, v => ((((((!nm) || (pk && le)) || (!is)) || f1) || f2) = false → v = .pointer (some ⟨B, 0, none⟩)) ∧ (¬ ((((((!nm) || (pk && le)) || (!is)) || f1) || f2) = false) → v = undef)
  | 116, v => ((((((!nm) || (pk && le)) || (!is)) || f1) || f2) = false → v = .int .i64 tn) ∧ (¬ ((((((!nm) || (pk && le)) || (!is)) || f1) || f2) = false) → v = undef)
  | 117, v => ((((((!nm) || (pk && le)) || (!is)) || f1) || f2) = false → v = .bool (u1)) ∧ (¬ ((((((!nm) || (pk && le)) || (!is)) || f1) || f2) = false) → v = undef)
  | 118, v => v = .bool ((((((!nm) || (pk && le)) || (!is)) || f1) || f2) || u1)
  | 119, v => v = .bool ((((((!nm) || (pk && le)) || (!is)) || f1) || f2) || u1)
  | 120, v => (((((((!nm) || (pk && le)) || (!is)) || f1) || f2) || u1) = false → v = .pointer (some ⟨X, 3, none⟩)) ∧ (¬ (((((((!nm) || (pk && le)) || (!is)) || f1) || f2) || u1) = false) → v = undef)
  | 121, v => (((((((!nm) || (pk && le)) || (!is)) || f1) || f2) || u1) = false → v = .int .i64 xu) ∧ (¬ (((((((!nm) || (pk && le)) || (!is)) || f1) || f2) || u1) = false) → v = undef)
  | 122, v => (((((((!nm) || (pk && le)) || (!is)) || f1) || f2) || u1) = false → v = .pointer (some ⟨B, 0, none⟩)) ∧ (¬ (((((((!nm) || (pk && le)) || (!is)) || f1) || f2) || u1) = false) → v = undef)
  | 123, v => (((((((!nm) || (pk && le)) || (!is)) || f1) || f2) || u1) = false → v = .int .i64 tn) ∧ (¬ (((((((!nm) || (pk && le)) || (!is)) || f1) || f2) || u1) = false) → v = undef)
  | 124, v => (((((((!nm) || (pk && le)) || (!is)) || f1) || f2) || u1) = false → v = .int .i64 (tn + 600)) ∧ (¬ (((((((!nm) || (pk && le)) || (!is)) || f1) || f2) || u1) = false) → v = undef)
  | 125, v => (((((((!nm) || (pk && le)) || (!is)) || f1) || f2) || u1) = false → v = .bool (u2)) ∧ (¬ (((((((!nm) || (pk && le)) || (!is)) || f1) || f2) || u1) = false) → v = undef)
  | 126, v => v = .bool (((((((!nm) || (pk && le)) || (!is)) || f1) || f2) || u1) || u2)
  | _, _ => True
def PhiSnd (X B g o m k ln c' : Nat) (xr yr : List UInt8) (xs xf xu tn tl tf : Int) (sv : Value) (nm pk le is f1 f2 u1 u2 : Bool) (sl : Nat) (v : Value) (w : World) : Prop := PhiSndY X B g o m k ln c' xr yr xs xf xu tn tl tf sv nm pk le is f1 f2 u1 u2 sl v
set_option maxRecDepth 100000 in
set_option maxHeartbeats 8000000 in
theorem sound_any (T : Tb) (sv lv : Value) (w : World) (h : RefT T sv lv w) (hin : InR T) (hsl : T.ses.length ≤ 100000) (hll : T.lea.length ≤ 100000) :
    Calls Tryz.prog 29 #[refV T sv lv] w (SndP T w) := by
  obtain ⟨⟨A, c, rfl, hA⟩, A', c', rfl, hA', hcc, hcm⟩ := h
  have HCC := Lib.hid (And.intro hcc hcm)
  clear hcc hcm
  have HA := Lib.hid hA
  have HA' := Lib.hid hA'
  have HIN := Lib.hid hin
  have hT := heads T
  have HIS := Lib.hid (fun (n : Int) (W : World) (b : Bool) (hW : Below w.heap.size w W) (hb : b = decide (n ∈ T.ses)) => is_any T A c (.slice A' T.lea.length c') n W (hA.below hW (Nat.le_refl _)) hsl hb)
  obtain ⟨Q, hQ⟩ : ∃ Q : Ending → World → Prop, Q = SndP T w := ⟨_, rfl⟩
  have hNO : ¬ Snd T → ∀ W, Below w.heap.size w W → Q (.returned (.bool false)) W := fun hn W hW => by rw [hQ]; exact ⟨⟨false, rfl, .inr ⟨rfl, hn⟩⟩, hW⟩
  have HNO := Lib.hid hNO
  have HYES := Lib.hid (show Snd T → ∀ W, Below w.heap.size w W → Q (.returned (.bool true)) W from fun hn W hW => by rw [hQ]; exact ⟨⟨true, rfl, .inl ⟨rfl, hn⟩⟩, hW⟩)
  rw [← hQ]
  clear hQ hNO hA hA' hin
  rcases hT with h1 | ⟨h1, h2⟩ | ⟨h1, h2, h3⟩ | ⟨h1, h2, h3, h4⟩ | ⟨h1, h2, h3, h4, h5⟩ | ⟨h1, h2, h3, h4, h5⟩
  · have HN := Lib.hid (show ¬ Snd T from fun hs => by have : T.now ≤ 10378368000 := hs.now.2; omega)
    go_enter Tryz.func29, Tryz.ntmps29
    go_wp2_with fail
    exact HNO.out HN.out _ (below_one _ _)
  · have HN := Lib.hid (show ¬ Snd T from fun hs => by have : T.ls ≤ 1099511627776 := hs.ls.2; omega)
    go_enter Tryz.func29, Tryz.ntmps29
    go_wp2_with fail
    exact HNO.out HN.out _ (below_one _ _)
  · have HN := Lib.hid (show ¬ Snd T from fun hs => by have : T.lf ≤ 1099511627776 := hs.lf.2; omega)
    go_enter Tryz.func29, Tryz.ntmps29
    go_wp2_with fail
    exact HNO.out HN.out _ (below_one _ _)
  · have HN := Lib.hid (show ¬ Snd T from fun hs => by have := hs.slen; omega)
    have h4' : (8 : Int) < (T.ses.length : Int) := by omega
    go_enter Tryz.func29, Tryz.ntmps29
    go_wp2_with fail
    exact HNO.out HN.out _ (below_one _ _)
  · have HN := Lib.hid (show ¬ Snd T from fun hs => by have := hs.llen; omega)
    have h4' : (T.ses.length : Int) ≤ 8 := by omega
    have h5' : (16 : Int) < (T.lea.length : Int) := by omega
    go_enter Tryz.func29, Tryz.ntmps29
    go_wp2_with fail
    exact HNO.out HN.out _ (below_one _ _)
  · have h4' : (T.ses.length : Int) ≤ 8 := by omega
    have h5' : (T.lea.length : Int) ≤ 16 := by omega
    have HH := Lib.hid (And.intro h1 (And.intro h2 (And.intro h3 (And.intro h4 h5))))
    obtain ⟨B, hB⟩ : ∃ B, B = w.heap.size := ⟨_, rfl⟩
    go_enter Tryz.func29, Tryz.ntmps29
    go_wp2_with fail
    rw [← hB]
    generalize hw1 : World.alloc _ _ = w1
    have F0 := Lib.hid (show Held w1 B [.int .i64 T.now, .int .i64 T.ls, .int .i64 T.lf, .slice A T.ses.length c, .slice A' T.lea.length c'] by subst hw1; exact Held.new hB)
    have G := Lib.hid (show Below w.heap.size w w1 by subst hw1; exact below_one _ _)
    have HA1 := Lib.hid (show IntsAt w1 A T.ses from HA.out.below G.out (Nat.le_refl _))
    clear hw1 hB
    have q := F0.out.cell
    have hBw : B < w1.heap.size := F0.out.lt
    go_loopw [37] (fun i wr => ∃ k : Nat, k ≤ T.ses.length ∧ i = .int .i64 k ∧ Hid (SesTo T k) ∧ wr = w1) (fun i _ => T.ses.length - (intOf i).toNat)
    case atStart => exact ⟨0, by omega, rfl, Lib.hid (SesTo.zero T), rfl⟩
    case round =>
      obtain ⟨k, hk, rfl, HK, rfl⟩ := hrel
      by_cases hlt : k < T.ses.length
      · have hlt2 : (k : Int) < (T.ses.length : Int) := by omega
        obtain ⟨n, hn⟩ : ∃ n, T.ses[k]? = some n := ⟨_, List.getElem?_eq_getElem hlt⟩
        have HN := Lib.hid hn
        obtain ⟨b, o, rfl, hc⟩ := HA1.out k (.int .i64 n) (by rw [List.getElem?_map, hn]; rfl)
        clear hn
        rcases (show n < 1 ∨ (1 ≤ n ∧ T.ls < n) ∨ (1 ≤ n ∧ n ≤ T.ls) by omega) with c1 | ⟨c1, c2⟩ | ⟨c1, c2⟩
        · have HF := Lib.hid (show ¬ Snd T from fun hs => by have := hs.ses n (List.mem_of_getElem? HN.out); omega)
          go_wp2_with fail
          exact HNO.out HF.out _ G.out
        · have HF := Lib.hid (show ¬ Snd T from fun hs => by have := hs.ses n (List.mem_of_getElem? HN.out); omega)
          go_wp2_with fail
          exact HNO.out HF.out _ G.out
        · by_cases h0 : 0 < k
          · have h0' : (0 : Int) < (k : Int) := by omega
            obtain ⟨m, hm⟩ : ∃ m, T.ses[k - 1]? = some m := ⟨_, List.getElem?_eq_getElem (by omega)⟩
            have HM := Lib.hid hm
            obtain ⟨b', o', e', hc'⟩ := HA1.out (k - 1) (.int .i64 m) (by rw [List.getElem?_map, hm]; rfl)
            cases e'
            have ek1 : ((k : Int) - 1).toNat = k - 1 := by omega
            clear hm
            by_cases hmn : m < n
            · have HK2 := Lib.hid (HK.out.next HN.out c1 c2 (fun z _ hz => by rw [HM.out] at hz; have e := Option.some.inj hz; omega))
              go_wp2_with fail
              go_roundw
              case rel => exact ⟨k + 1, by omega, by go_num, HK2, by trivial⟩
              case measure => simp [intOf]; omega
            · have hmn' : n ≤ m := by omega
              have HF := Lib.hid (show ¬ Snd T from fun hs => hmn (asc_adj hs.asc HM.out (by rw [show k - 1 + 1 = k by omega]; exact HN.out)))
              go_wp2_with fail
              exact HNO.out HF.out _ G.out
          · have hk0 : k = 0 := by omega
            have h0' : (k : Int) ≤ 0 := by omega
            have HK2 := Lib.hid (HK.out.next HN.out c1 c2 (fun z h _ => by omega))
            clear hk0
            go_wp2_with fail
            go_roundw
            case rel => exact ⟨k + 1, by omega, by go_num, HK2, by trivial⟩
            case measure => simp [intOf]; omega
      · obtain rfl : k = T.ses.length := by omega
        clear hlt
        go_wp2_with fail
        clear q
        have HKS := HK
        have HQ := Lib.hid F0.out.cell
        obtain ⟨D, hD⟩ : ∃ D, D = wr.heap.size := ⟨_, rfl⟩
        have HD := Lib.hid hD
        have hBD : B < D := by omega
        clear hD hBw
        go_loopw [68] (fun i wq => ∃ k : Nat, k ≤ T.lea.length ∧ i = .int .i64 k ∧ Hid (LeaTo T k) ∧ Hid (Below D wr wq)) (fun i _ => T.lea.length - (intOf i).toNat)
        case atStart => exact ⟨0, by omega, rfl, Lib.hid (LeaTo.zero T), Lib.hid (Below.refl _ _)⟩
        case round =>
          obtain ⟨k, hk, rfl, HL, G2⟩ := hrel
          have hDw : D ≤ wr.heap.size := by have := G2.out.size; have := HD.out; omega
          have HGW := Lib.hid (show Below w.heap.size w wr from G.out.trans (G2.out.mono (by have := G.out.size; have := HD.out; omega)))
          by_cases hlt : k < T.lea.length
          · have hlt2 : (k : Int) < (T.lea.length : Int) := by omega
            obtain ⟨x, hx⟩ : ∃ x, T.lea[k]? = some x := ⟨_, List.getElem?_eq_getElem hlt⟩
            have HX := Lib.hid hx
            have HRw := HA'.out.below HGW.out (Nat.le_refl _)
            obtain ⟨g, o, rfl⟩ := LeasAt.some HRw hx
            obtain ⟨q0, q1, q2, q3⟩ := LeasAt.get HRw hx
            have hgw : g < wr.heap.size := World.block_lt_of_cell? wr _ q0
            obtain ⟨m, y, hmk, hy⟩ : ∃ m y, (0 < k → m + 1 = k) ∧ T.lea[m]? = some y := by
              by_cases h0 : 0 < k
              · exact ⟨k - 1, _, fun _ => by omega, List.getElem?_eq_getElem (by omega)⟩
              · exact ⟨k, x, fun h => absurd h h0, hx⟩
            have HY := Lib.hid hy
            have HY0 := Lib.hid (LeasAt.get HRw hy).1
            have hml : m < T.lea.length := (List.getElem?_eq_some_iff.1 hy).1
            have HMK := Lib.hid hmk
            have hnw0 : 0 ≤ T.now := HIN.out.1.1
            have hsum : IntKind.i64.wrap (T.now + 600) = T.now + 600 := by rw [IntKind.wrap_i64]; omega
            obtain ⟨nm, hnm⟩ : ∃ b, b = nmB x.reel := ⟨_, rfl⟩
            obtain ⟨pk, hpk⟩ : ∃ b, b = decide (0 < k) := ⟨_, rfl⟩
            obtain ⟨le, hle⟩ : ∃ b, b = decide (cmpB x.reel y.reel ≤ 0) := ⟨_, rfl⟩
            obtain ⟨is, his⟩ : ∃ b, b = decide (x.ses ∈ T.ses) := ⟨_, rfl⟩
            obtain ⟨f1, hf1⟩ : ∃ b, b = decide (x.fen < 1) := ⟨_, rfl⟩
            obtain ⟨f2, hf2⟩ : ∃ b, b = decide (T.lf < x.fen) := ⟨_, rfl⟩
            obtain ⟨u1, hu1⟩ : ∃ b, b = decide (x.unt ≤ T.now) := ⟨_, rfl⟩
            obtain ⟨u2, hu2⟩ : ∃ b, b = decide (T.now + 600 < x.unt) := ⟨_, rfl⟩
            have HNM0 := Lib.hid (show ∀ W, Calls Tryz.prog 57 #[.string (sB x.reel)] W fun e w' => e = .returned (.bool nm) ∧ Below W.heap.size W w' from fun W => (namer_any x.reel W).mono (by rintro e w' ⟨rfl, rfl⟩; exact ⟨by rw [hnm], Below.refl _ _⟩))
            have HLE := Lib.hid (show (Go.Op.bytesLess (sB x.reel).toList (sB y.reel).toList || (sB x.reel).toList == (sB y.reel).toList) = le by
              rw [Lib.toList_data, Lib.toList_data, sB_list, sB_list, leq_cmp, hle])
            obtain ⟨res, hres⟩ : ∃ b, b = (((((((!nm) || (pk && le)) || (!is)) || f1) || f2) || u1) || u2) := ⟨_, rfl⟩
            have HBAD := Lib.hid (show res = true → ¬ Snd T from fun hr hs => by
              have h := hs.lea x (List.mem_of_getElem? hx)
              have g1 : nm = true := hnm.trans h.1
              have g2 : is = true := his.trans (decide_eq_true h.2.1)
              have g3 : f1 = false := hf1.trans (decide_eq_false (by have := h.2.2.1; omega))
              have g4 : f2 = false := hf2.trans (decide_eq_false (by have := h.2.2.2.1; omega))
              have g5 : u1 = false := hu1.trans (decide_eq_false (by have := h.2.2.2.2.1; omega))
              have g6 : u2 = false := hu2.trans (decide_eq_false (by have := h.2.2.2.2.2; omega))
              have g7 : (pk && le) = false := by
                by_cases h0 : 0 < k
                · have e := hmk h0
                  have := ascR_adj hs.ord hy (by rw [e]; exact hx)
                  have : le = false := hle.trans (decide_eq_false (fun hc => cmp_flip.1 hc this))
                  rw [this, Bool.and_false]
                · have : pk = false := hpk.trans (decide_eq_false h0)
                  rw [this]; rfl
              rw [hres, g1, g2, g3, g4, g5, g6, g7] at hr
              exact absurd hr (by decide))
            have HGOOD := Lib.hid (show res = false → LsOk T x ∧ ∀ z, 0 < k → T.lea[k - 1]? = some z → cmpB z.reel x.reel < 0 from fun hr => by
              rw [hres] at hr
              simp only [Bool.or_eq_false_iff, Bool.not_eq_false'] at hr
              obtain ⟨⟨⟨⟨⟨⟨g1, g7⟩, g2⟩, g3⟩, g4⟩, g5⟩, g6⟩ := hr
              refine ⟨⟨hnm.symm.trans g1, of_decide_eq_true (his.symm.trans g2), ?_, ?_, ?_, ?_⟩, fun z h0 hz => ?_⟩
              · have := of_decide_eq_false (hf1.symm.trans g3); omega
              · have := of_decide_eq_false (hf2.symm.trans g4); omega
              · have := of_decide_eq_false (hu1.symm.trans g5); omega
              · have := of_decide_eq_false (hu2.symm.trans g6); omega
              · have e := hmk h0
                rw [show k - 1 = m by omega, hy] at hz
                rw [← Option.some.inj hz]
                have : pk = true := hpk.trans (decide_eq_true h0)
                rw [this, Bool.true_and] at g7
                have := of_decide_eq_false (hle.symm.trans g7)
                have h1 := cmp_anti x.reel y.reel
                omega)
            have HP := Lib.hid (And.intro hpk (And.intro hf1 (And.intro hf2 (And.intro hu1 (And.intro hu2 (And.intro his hres))))))
            have HML := Lib.hid hml
            have HSUM := Lib.hid hsum
            have HNW := Lib.hid hnw0
            clear hx hy HRw hmk hpk hf1 hf2 hu1 hu2 hnm hle his hres hml hsum hnw0
            go_wp2_with fail
            generalize hw5 : World.alloc _ _ = w5
            obtain ⟨X, hX⟩ : ∃ X, X = wr.heap.size := ⟨_, rfl⟩
            obtain ⟨N, hN⟩ : ∃ N, N = w5.heap.size := ⟨_, rfl⟩
            have hNX : N = X + 1 := by rw [hN, ← hw5, hX]; simp
            have FX := Lib.hid (show Held w5 X [.string (sB x.reel), .int .i64 x.ses, .int .i64 x.fen, .int .i64 x.unt] by subst hw5; exact Held.new hX)
            have G6 := Lib.hid (show Below wr.heap.size wr w5 by subst hw5; exact below_one _ _)
            have G5 := Lib.hid (G2.out.trans (G6.out.mono hDw))
            have GN := Lib.hid (show w.heap.size ≤ N by have := HGW.out.size; have := G6.out.size; omega)
            have HGW2 := Lib.hid (show Below w.heap.size w w5 from HGW.out.trans (G6.out.mono HGW.out.size))
            have HIB := Lib.hid (show ∀ W, Below N w5 W → Calls Tryz.prog 58 #[refV T (.slice A T.ses.length c) (.slice (some ⟨g, o, none⟩) T.lea.length c'), .int .i64 x.ses] W fun e w' => e = .returned (.bool is) ∧ Below W.heap.size W w' from fun W hW => HIS.out x.ses W is (HGW2.out.trans (hW.mono GN.out)) HP.out.2.2.2.2.2.1)
            have HSZ := Lib.hid (show ∀ W, Below N w5 W → N ≤ W.heap.size from fun W hW => by have := hW.size; omega)
            have HNM := HNM0
            rw [← hX]
            have hXN : X < N := by omega
            have hBN : B < N := by omega
            have hgN : g < N := by omega
            have HDN := Lib.hid (show D ≤ N by omega)
            have HN5 := Lib.hid (show Below N w5 w5 from Below.refl _ _)
            have e9 : w5.cell? ⟨g, o + m * 4, none⟩ = some (Value.string (sB y.reel)) := (G6.out.cell (p := ⟨g, o + m * 4, none⟩) hgw).trans HY0.out
            clear hw5 hN hX hgw hNX HNM0
            have e0 : w5.cell? ⟨X, 0, none⟩ = some (Value.string (sB x.reel)) := FX.out.cell 0
            have e1 : w5.cell? ⟨X, 1, none⟩ = some (.int .i64 x.ses) := FX.out.cell 1
            have e2 : w5.cell? ⟨X, 2, none⟩ = some (.int .i64 x.fen) := FX.out.cell 2
            have e3 : w5.cell? ⟨X, 3, none⟩ = some (.int .i64 x.unt) := FX.out.cell 3
            have e4 : w5.cell? ⟨B, 0, none⟩ = some (Value.int .i64 T.now) := (G5.out.cell (p := ⟨B, 0, none⟩) hBD).trans (HQ.out 0)
            have e5 : w5.cell? ⟨B, 1, none⟩ = some (.int .i64 T.ls) := (G5.out.cell (p := ⟨B, 1, none⟩) hBD).trans (HQ.out 1)
            have e6 : w5.cell? ⟨B, 2, none⟩ = some (.int .i64 T.lf) := (G5.out.cell (p := ⟨B, 2, none⟩) hBD).trans (HQ.out 2)
            have e7 : w5.cell? ⟨B, 3, none⟩ = some (.slice A T.ses.length c) := (G5.out.cell (p := ⟨B, 3, none⟩) hBD).trans (HQ.out 3)
            have e8 : w5.cell? ⟨B, 4, none⟩ = some (.slice (some ⟨g, o, none⟩) T.lea.length c') := (G5.out.cell (p := ⟨B, 4, none⟩) hBD).trans (HQ.out 4)
            have hpk1 : decide ((0 : Int) < (k : Int)) = pk := by rw [HP.out.1]; simp
            have hpk2 : decide (0 < k) = pk := HP.out.1.symm
            have hf1 := HP.out.2.1.symm
            have hf2 := HP.out.2.2.1.symm
            have hu1 := HP.out.2.2.2.1.symm
            have hu2 := HP.out.2.2.2.2.1.symm
            have hsum := HSUM.out
            have kle2 := HLE.out
            have m4 : (m : Int) < (T.lea.length : Int) := by have := HML.out; omega
            have m4' : m < T.lea.length := HML.out
            have m3 : pk = true → IntKind.i64.wrap ((k : Int) - 1) = (m : Int) := fun h => by
              have := HMK.out (of_decide_eq_true (HP.out.1.symm.trans h))
              rw [IntKind.wrap_i64]
              omega
            refine wp_region_spec (by kernel_rfl) (fun w' => Below N w5 w') (PhiSnd X B g o m k T.lea.length c' x.reel y.reel x.ses x.fen x.unt T.now T.ls T.lf ((.slice A T.ses.length c)) nm pk le is f1 f2 u1 u2) 143 rfl (by kernel_rfl) (Below.refl _ _).drew ?hops ?hend
            case hops =>
              refine ⟨?o0, ?o1, ?o2, ?o3, ?o4, ?o5, ?o6, ?o7, ?o8, ?o9, ?o10, ?o11, ?o12, ?o13, ?o14, ?o15, ?o16, ?o17, ?o18, ?o19, ?o20, ?o21, ?o22, ?o23, ?o24, ?o25, ?o26, ?o27, ?o28, ?o29, ?o30, ?o31, ?o32, ?o33, ?o34, ?o35, ?o36, ?o37, ?o38, ?o39, ?o40, ?o41, ?o42, ?o43, ?o44, ?o45, ?o46, ?o47, ?o48, ?o49, ?o50, ?o51, ?o52, ?o53, trivial⟩
              case o0 =>
                intro ev w8 hI hdep hfree
                have a6 : ev 6 = .pointer (some ⟨X, 0, none⟩) := hfree 6 (by kernel_rfl)
                clear hdep hfree
                try dsimp only
                simp [OpRuns, execOp, evalOf, a6, go_sem]
                exact ⟨hI, rfl⟩
              case o1 =>
                intro ev w8 hI hdep hfree
                have a73 : ev 73 = .pointer (some ⟨X, 0, none⟩) := hdep 0 73 (by kernel_rfl) (by kernel_rfl)
                have y0 : w8.cell? ⟨X, 0, none⟩ = some (.string (sB x.reel)) := (hI.cell (p := ⟨X, 0, none⟩) hXN).trans e0
                clear hdep hfree
                try dsimp only
                simp [OpRuns, execOp, evalOf, a73, y0, go_sem]
                exact ⟨hI, rfl⟩
              case o2 =>
                intro ev w8 hI hdep hfree
                have a74 : ev 74 = .string (sB x.reel) := hdep 1 74 (by kernel_rfl) (by kernel_rfl)
                clear hdep hfree
                try dsimp only
                refine runs_call (f := 57) (args := #[.string (sB x.reel)]) (by simp [execOp, evalOf, resolve, invoke, a74, go_sem]) ((HNM.out w8).mono ?_)
                rintro e w9 ⟨he, hb⟩
                exact ⟨_, he, hI.trans (hb.mono (HSZ.out w8 hI)), fun s u h => h, fun d hd => by cases hd; exact rfl⟩
              case o3 =>
                intro ev w8 hI hdep hfree
                have a75 : ev 75 = .bool nm := hdep 2 75 (by kernel_rfl) (by kernel_rfl)
                clear hdep hfree
                try dsimp only
                simp [OpRuns, execOp, evalOf, a75, go_sem]
                exact ⟨hI, rfl⟩
              case o4 =>
                intro ev w8 hI hdep hfree
                have a76 : ev 76 = .bool (!nm) := hdep 3 76 (by kernel_rfl) (by kernel_rfl)
                clear hdep hfree
                try dsimp only
                simp [OpRuns, execOp, evalOf, a76, go_sem]
                exact ⟨hI, rfl⟩
              case o5 =>
                intro ev w8 hI hdep hfree
                have ag : ev 77 = .bool (!nm) := hdep 4 77 (by kernel_rfl) (by kernel_rfl)
                refine ⟨fun hy => ?_, fun hn d hd => ?_⟩
                rotate_left
                · cases hd
                  exact ⟨fun hr => absurd ((yield_of (by kernel_rfl) ag).trans (congrArg some hr)) hn, fun _ => rfl⟩
                have hR : (!nm) = false := Option.some.inj ((yield_of (by kernel_rfl) ag).symm.trans hy)
                clear hy ag
                have a5 : ev 5 = .int .i64 (k : Int) := hfree 5 (by kernel_rfl)
                clear hdep hfree
                try dsimp only
                simp [OpRuns, execOp, evalOf, a5, go_sem]
                exact ⟨hI, ⟨fun _ => rfl, fun h => absurd hR h⟩⟩
              case o6 =>
                intro ev w8 hI hdep hfree
                have ag : ev 77 = .bool (!nm) := hdep 4 77 (by kernel_rfl) (by kernel_rfl)
                refine ⟨fun hy => ?_, fun hn d hd => ?_⟩
                rotate_left
                · cases hd
                  exact ⟨fun hr => absurd ((yield_of (by kernel_rfl) ag).trans (congrArg some hr)) hn, fun _ => rfl⟩
                have hR : (!nm) = false := Option.some.inj ((yield_of (by kernel_rfl) ag).symm.trans hy)
                clear hy ag
                have a78 : ev 78 = .int .i64 (k : Int) := (hdep 5 78 (by kernel_rfl) (by kernel_rfl)).1 hR
                clear hdep hfree
                try dsimp only
                simp [OpRuns, execOp, evalOf, a78, go_sem]
                exact ⟨hI, ⟨fun _ => congrArg Value.bool hpk2, fun h => absurd hR h⟩⟩
              case o7 =>
                intro ev w8 hI hdep hfree
                have ag : ev 77 = .bool (!nm) := hdep 4 77 (by kernel_rfl) (by kernel_rfl)
                refine ⟨fun hy => ?_, fun hn d hd => ?_⟩
                rotate_left
                · cases hd
                  exact ⟨fun hr => absurd ((yield_of (by kernel_rfl) ag).trans (congrArg some hr)) hn, fun _ => rfl⟩
                have hR : (!nm) = false := Option.some.inj ((yield_of (by kernel_rfl) ag).symm.trans hy)
                clear hy ag
                have a79 : ev 79 = .bool (pk) := (hdep 6 79 (by kernel_rfl) (by kernel_rfl)).1 hR
                clear hdep hfree
                try dsimp only
                simp [OpRuns, execOp, evalOf, a79, go_sem]
                exact ⟨hI, ⟨fun _ => rfl, fun h => absurd hR h⟩⟩
              case o8 =>
                intro ev w8 hI hdep hfree
                have ag := hdep 7 80 (by kernel_rfl) (by kernel_rfl)
                have ag : ((!nm) = false → ev 80 = .bool pk) ∧ (¬ ((!nm) = false) → ev 80 = undef) := ag
                refine ⟨fun hy => ?_, fun hn d hd => ?_⟩
                rotate_left
                · cases hd
                  exact ⟨fun hr => absurd ((yield_of (by kernel_rfl) (ag.1 hr.2)).trans (congrArg some hr.1)) hn, fun _ => rfl⟩
                have hR : (pk = true) ∧ ((!nm) = false) := by
                  by_cases hj : (!nm) = false
                  · exact ⟨Option.some.inj ((yield_of (by kernel_rfl) (ag.1 hj)).symm.trans hy), hj⟩
                  · rw [yield_un (by kernel_rfl) (ag.2 hj)] at hy
                    cases hy
                clear hy ag
                have a6 : ev 6 = .pointer (some ⟨X, 0, none⟩) := hfree 6 (by kernel_rfl)
                clear hdep hfree
                try dsimp only
                simp [OpRuns, execOp, evalOf, a6, go_sem]
                exact ⟨hI, ⟨fun _ => rfl, fun h => absurd hR h⟩⟩
              case o9 =>
                intro ev w8 hI hdep hfree
                have ag := hdep 7 80 (by kernel_rfl) (by kernel_rfl)
                have ag : ((!nm) = false → ev 80 = .bool pk) ∧ (¬ ((!nm) = false) → ev 80 = undef) := ag
                refine ⟨fun hy => ?_, fun hn d hd => ?_⟩
                rotate_left
                · cases hd
                  exact ⟨fun hr => absurd ((yield_of (by kernel_rfl) (ag.1 hr.2)).trans (congrArg some hr.1)) hn, fun _ => rfl⟩
                have hR : (pk = true) ∧ ((!nm) = false) := by
                  by_cases hj : (!nm) = false
                  · exact ⟨Option.some.inj ((yield_of (by kernel_rfl) (ag.1 hj)).symm.trans hy), hj⟩
                  · rw [yield_un (by kernel_rfl) (ag.2 hj)] at hy
                    cases hy
                clear hy ag
                have a81 : ev 81 = .pointer (some ⟨X, 0, none⟩) := (hdep 8 81 (by kernel_rfl) (by kernel_rfl)).1 hR
                have y0 : w8.cell? ⟨X, 0, none⟩ = some (.string (sB x.reel)) := (hI.cell (p := ⟨X, 0, none⟩) hXN).trans e0
                clear hdep hfree
                try dsimp only
                simp [OpRuns, execOp, evalOf, a81, y0, go_sem]
                exact ⟨hI, ⟨fun _ => rfl, fun h => absurd hR h⟩⟩
              case o10 =>
                intro ev w8 hI hdep hfree
                have ag := hdep 7 80 (by kernel_rfl) (by kernel_rfl)
                have ag : ((!nm) = false → ev 80 = .bool pk) ∧ (¬ ((!nm) = false) → ev 80 = undef) := ag
                refine ⟨fun hy => ?_, fun hn d hd => ?_⟩
                rotate_left
                · cases hd
                  exact ⟨fun hr => absurd ((yield_of (by kernel_rfl) (ag.1 hr.2)).trans (congrArg some hr.1)) hn, fun _ => rfl⟩
                have hR : (pk = true) ∧ ((!nm) = false) := by
                  by_cases hj : (!nm) = false
                  · exact ⟨Option.some.inj ((yield_of (by kernel_rfl) (ag.1 hj)).symm.trans hy), hj⟩
                  · rw [yield_un (by kernel_rfl) (ag.2 hj)] at hy
                    cases hy
                clear hy ag
                have a1 : ev 1 = .pointer (some ⟨B, 0, none⟩) := hfree 1 (by kernel_rfl)
                clear hdep hfree
                try dsimp only
                simp [OpRuns, execOp, evalOf, a1, go_sem]
                exact ⟨hI, ⟨fun _ => rfl, fun h => absurd hR h⟩⟩
              case o11 =>
                intro ev w8 hI hdep hfree
                have ag := hdep 7 80 (by kernel_rfl) (by kernel_rfl)
                have ag : ((!nm) = false → ev 80 = .bool pk) ∧ (¬ ((!nm) = false) → ev 80 = undef) := ag
                refine ⟨fun hy => ?_, fun hn d hd => ?_⟩
                rotate_left
                · cases hd
                  exact ⟨fun hr => absurd ((yield_of (by kernel_rfl) (ag.1 hr.2)).trans (congrArg some hr.1)) hn, fun _ => rfl⟩
                have hR : (pk = true) ∧ ((!nm) = false) := by
                  by_cases hj : (!nm) = false
                  · exact ⟨Option.some.inj ((yield_of (by kernel_rfl) (ag.1 hj)).symm.trans hy), hj⟩
                  · rw [yield_un (by kernel_rfl) (ag.2 hj)] at hy
                    cases hy
                clear hy ag
                have a83 : ev 83 = .pointer (some ⟨B, 4, none⟩) := (hdep 10 83 (by kernel_rfl) (by kernel_rfl)).1 hR
                have y0 : w8.cell? ⟨B, 4, none⟩ = some (.slice (some ⟨g, o, none⟩) T.lea.length c') := (hI.cell (p := ⟨B, 4, none⟩) hBN).trans e8
                clear hdep hfree
                try dsimp only
                simp [OpRuns, execOp, evalOf, a83, y0, go_sem]
                exact ⟨hI, ⟨fun _ => rfl, fun h => absurd hR h⟩⟩
              case o12 =>
                intro ev w8 hI hdep hfree
                have ag := hdep 7 80 (by kernel_rfl) (by kernel_rfl)
                have ag : ((!nm) = false → ev 80 = .bool pk) ∧ (¬ ((!nm) = false) → ev 80 = undef) := ag
                refine ⟨fun hy => ?_, fun hn d hd => ?_⟩
                rotate_left
                · cases hd
                  exact ⟨fun hr => absurd ((yield_of (by kernel_rfl) (ag.1 hr.2)).trans (congrArg some hr.1)) hn, fun _ => rfl⟩
                have hR : (pk = true) ∧ ((!nm) = false) := by
                  by_cases hj : (!nm) = false
                  · exact ⟨Option.some.inj ((yield_of (by kernel_rfl) (ag.1 hj)).symm.trans hy), hj⟩
                  · rw [yield_un (by kernel_rfl) (ag.2 hj)] at hy
                    cases hy
                clear hy ag
                have a5 : ev 5 = .int .i64 (k : Int) := hfree 5 (by kernel_rfl)
                clear hdep hfree
                try dsimp only
                simp [OpRuns, execOp, evalOf, a5, go_sem]
                exact ⟨hI, ⟨fun _ => rfl, fun h => absurd hR h⟩⟩
              case o13 =>
                intro ev w8 hI hdep hfree
                have ag := hdep 7 80 (by kernel_rfl) (by kernel_rfl)
                have ag : ((!nm) = false → ev 80 = .bool pk) ∧ (¬ ((!nm) = false) → ev 80 = undef) := ag
                refine ⟨fun hy => ?_, fun hn d hd => ?_⟩
                rotate_left
                · cases hd
                  exact ⟨fun hr => absurd ((yield_of (by kernel_rfl) (ag.1 hr.2)).trans (congrArg some hr.1)) hn, fun _ => rfl⟩
                have hR : (pk = true) ∧ ((!nm) = false) := by
                  by_cases hj : (!nm) = false
                  · exact ⟨Option.some.inj ((yield_of (by kernel_rfl) (ag.1 hj)).symm.trans hy), hj⟩
                  · rw [yield_un (by kernel_rfl) (ag.2 hj)] at hy
                    cases hy
                clear hy ag
                have m3' := m3 hR.1
                have a85 : ev 85 = .int .i64 (k : Int) := (hdep 12 85 (by kernel_rfl) (by kernel_rfl)).1 hR
                clear hdep hfree
                try dsimp only
                simp [OpRuns, execOp, evalOf, a85, m3', go_sem]
                exact ⟨hI, ⟨fun _ => rfl, fun h => absurd hR h⟩⟩
              case o14 =>
                intro ev w8 hI hdep hfree
                have ag := hdep 7 80 (by kernel_rfl) (by kernel_rfl)
                have ag : ((!nm) = false → ev 80 = .bool pk) ∧ (¬ ((!nm) = false) → ev 80 = undef) := ag
                refine ⟨fun hy => ?_, fun hn d hd => ?_⟩
                rotate_left
                · cases hd
                  exact ⟨fun hr => absurd ((yield_of (by kernel_rfl) (ag.1 hr.2)).trans (congrArg some hr.1)) hn, fun _ => rfl⟩
                have hR : (pk = true) ∧ ((!nm) = false) := by
                  by_cases hj : (!nm) = false
                  · exact ⟨Option.some.inj ((yield_of (by kernel_rfl) (ag.1 hj)).symm.trans hy), hj⟩
                  · rw [yield_un (by kernel_rfl) (ag.2 hj)] at hy
                    cases hy
                clear hy ag
                have a84 : ev 84 = .slice (some ⟨g, o, none⟩) T.lea.length c' := (hdep 11 84 (by kernel_rfl) (by kernel_rfl)).1 hR
                have a86 : ev 86 = .int .i64 (m : Int) := (hdep 13 86 (by kernel_rfl) (by kernel_rfl)).1 hR
                clear hdep hfree
                try dsimp only
                simp [OpRuns, execOp, evalOf, a84, a86, m4, m4', go_sem]
                exact ⟨hI, ⟨fun _ => rfl, fun h => absurd hR h⟩⟩
              case o15 =>
                intro ev w8 hI hdep hfree
                have ag := hdep 7 80 (by kernel_rfl) (by kernel_rfl)
                have ag : ((!nm) = false → ev 80 = .bool pk) ∧ (¬ ((!nm) = false) → ev 80 = undef) := ag
                refine ⟨fun hy => ?_, fun hn d hd => ?_⟩
                rotate_left
                · cases hd
                  exact ⟨fun hr => absurd ((yield_of (by kernel_rfl) (ag.1 hr.2)).trans (congrArg some hr.1)) hn, fun _ => rfl⟩
                have hR : (pk = true) ∧ ((!nm) = false) := by
                  by_cases hj : (!nm) = false
                  · exact ⟨Option.some.inj ((yield_of (by kernel_rfl) (ag.1 hj)).symm.trans hy), hj⟩
                  · rw [yield_un (by kernel_rfl) (ag.2 hj)] at hy
                    cases hy
                clear hy ag
                have a87 : ev 87 = .pointer (some ⟨g, o + m * 4, none⟩) := (hdep 14 87 (by kernel_rfl) (by kernel_rfl)).1 hR
                clear hdep hfree
                try dsimp only
                simp [OpRuns, execOp, evalOf, a87, go_sem]
                exact ⟨hI, ⟨fun _ => rfl, fun h => absurd hR h⟩⟩
              case o16 =>
                intro ev w8 hI hdep hfree
                have ag := hdep 7 80 (by kernel_rfl) (by kernel_rfl)
                have ag : ((!nm) = false → ev 80 = .bool pk) ∧ (¬ ((!nm) = false) → ev 80 = undef) := ag
                refine ⟨fun hy => ?_, fun hn d hd => ?_⟩
                rotate_left
                · cases hd
                  exact ⟨fun hr => absurd ((yield_of (by kernel_rfl) (ag.1 hr.2)).trans (congrArg some hr.1)) hn, fun _ => rfl⟩
                have hR : (pk = true) ∧ ((!nm) = false) := by
                  by_cases hj : (!nm) = false
                  · exact ⟨Option.some.inj ((yield_of (by kernel_rfl) (ag.1 hj)).symm.trans hy), hj⟩
                  · rw [yield_un (by kernel_rfl) (ag.2 hj)] at hy
                    cases hy
                clear hy ag
                have a88 : ev 88 = .pointer (some ⟨g, o + m * 4, none⟩) := (hdep 15 88 (by kernel_rfl) (by kernel_rfl)).1 hR
                have y0 : w8.cell? ⟨g, o + m * 4, none⟩ = some (.string (sB y.reel)) := (hI.cell (p := ⟨g, o + m * 4, none⟩) hgN).trans e9
                clear hdep hfree
                try dsimp only
                simp [OpRuns, execOp, evalOf, a88, y0, go_sem]
                exact ⟨hI, ⟨fun _ => rfl, fun h => absurd hR h⟩⟩
              case o17 =>
                intro ev w8 hI hdep hfree
                have ag := hdep 7 80 (by kernel_rfl) (by kernel_rfl)
                have ag : ((!nm) = false → ev 80 = .bool pk) ∧ (¬ ((!nm) = false) → ev 80 = undef) := ag
                refine ⟨fun hy => ?_, fun hn d hd => ?_⟩
                rotate_left
                · cases hd
                  exact ⟨fun hr => absurd ((yield_of (by kernel_rfl) (ag.1 hr.2)).trans (congrArg some hr.1)) hn, fun _ => rfl⟩
                have hR : (pk = true) ∧ ((!nm) = false) := by
                  by_cases hj : (!nm) = false
                  · exact ⟨Option.some.inj ((yield_of (by kernel_rfl) (ag.1 hj)).symm.trans hy), hj⟩
                  · rw [yield_un (by kernel_rfl) (ag.2 hj)] at hy
                    cases hy
                clear hy ag
                have a82 : ev 82 = .string (sB x.reel) := (hdep 9 82 (by kernel_rfl) (by kernel_rfl)).1 hR
                have a89 : ev 89 = .string (sB y.reel) := (hdep 16 89 (by kernel_rfl) (by kernel_rfl)).1 hR
                clear hdep hfree
                try dsimp only
                simp [OpRuns, execOp, evalOf, a82, a89, go_sem]
                exact ⟨hI, ⟨fun _ => congrArg Value.bool kle2, fun h => absurd hR h⟩⟩
              case o18 =>
                intro ev w8 hI hdep hfree
                have ag : ev 77 = .bool (!nm) := hdep 4 77 (by kernel_rfl) (by kernel_rfl)
                refine ⟨fun hy => ?_, fun hn d hd => ?_⟩
                rotate_left
                · cases hd
                  exact ⟨fun hr => absurd ((yield_of (by kernel_rfl) ag).trans (congrArg some hr)) hn, fun _ => rfl⟩
                have hR : (!nm) = false := Option.some.inj ((yield_of (by kernel_rfl) ag).symm.trans hy)
                clear hy ag
                have a80 : ev 80 = .bool (pk) := (hdep 7 80 (by kernel_rfl) (by kernel_rfl)).1 hR
                have ax : pk = true → ev 90 = .bool (le) := fun hc => (hdep 17 90 (by kernel_rfl) (by kernel_rfl)).1 ⟨hc, hR⟩
                clear hdep hfree
                obtain ⟨cc, hcc⟩ : ∃ cc, cc = pk := ⟨_, rfl⟩
                rw [← hcc] at a80
                cases cc with
                | true =>
                  have ax := ax hcc.symm
                  have hv : (Value.bool (le)) = (Value.bool (pk && le)) := by rw [← hcc]; simp
                  clear hcc
                  try dsimp only
                  simp [OpRuns, execOp, evalOf, a80, ax, go_sem]
                  exact ⟨hI, ⟨fun _ => hv, fun h => absurd hR h⟩⟩
                | false =>
                  clear ax
                  have hv : Value.bool false = (Value.bool (pk && le)) := by rw [← hcc]; simp
                  clear hcc
                  try dsimp only
                  simp [OpRuns, execOp, evalOf, a80, go_sem]
                  exact ⟨hI, ⟨fun _ => hv, fun h => absurd hR h⟩⟩
              case o19 =>
                intro ev w8 hI hdep hfree
                have a77 : ev 77 = .bool (!nm) := hdep 4 77 (by kernel_rfl) (by kernel_rfl)
                have ax : (!nm) = false → ev 91 = .bool (pk && le) := fun hc => (hdep 18 91 (by kernel_rfl) (by kernel_rfl)).1 hc
                clear hdep hfree
                obtain ⟨cc, hcc⟩ : ∃ cc, cc = (!nm) := ⟨_, rfl⟩
                rw [← hcc] at a77
                cases cc with
                | true =>
                  clear ax
                  have hv : Value.bool true = (Value.bool ((!nm) || (pk && le))) := by rw [← hcc]; simp
                  clear hcc
                  try dsimp only
                  simp [OpRuns, execOp, evalOf, a77, go_sem]
                  exact ⟨hI, hv⟩
                | false =>
                  have ax := ax hcc.symm
                  have hv : (Value.bool (pk && le)) = (Value.bool ((!nm) || (pk && le))) := by rw [← hcc]; simp
                  clear hcc
                  try dsimp only
                  simp [OpRuns, execOp, evalOf, a77, ax, go_sem]
                  exact ⟨hI, hv⟩
              case o20 =>
                intro ev w8 hI hdep hfree
                have a92 : ev 92 = .bool ((!nm) || (pk && le)) := hdep 19 92 (by kernel_rfl) (by kernel_rfl)
                clear hdep hfree
                try dsimp only
                simp [OpRuns, execOp, evalOf, a92, go_sem]
                exact ⟨hI, rfl⟩
              case o21 =>
                intro ev w8 hI hdep hfree
                have ag : ev 93 = .bool ((!nm) || (pk && le)) := hdep 20 93 (by kernel_rfl) (by kernel_rfl)
                refine ⟨fun hy => ?_, fun hn d hd => ?_⟩
                rotate_left
                · cases hd
                  exact ⟨fun hr => absurd ((yield_of (by kernel_rfl) ag).trans (congrArg some hr)) hn, fun _ => rfl⟩
                have hR : ((!nm) || (pk && le)) = false := Option.some.inj ((yield_of (by kernel_rfl) ag).symm.trans hy)
                clear hy ag
                have a1 : ev 1 = .pointer (some ⟨B, 0, none⟩) := hfree 1 (by kernel_rfl)
                have y0 : w8.cell? ⟨B, 0, none⟩ = some (.int .i64 T.now) := (hI.cell (p := ⟨B, 0, none⟩) hBN).trans e4
                have y1 : w8.cell? ⟨B, 1, none⟩ = some (.int .i64 T.ls) := (hI.cell (p := ⟨B, 1, none⟩) hBN).trans e5
                have y2 : w8.cell? ⟨B, 2, none⟩ = some (.int .i64 T.lf) := (hI.cell (p := ⟨B, 2, none⟩) hBN).trans e6
                have y3 : w8.cell? ⟨B, 3, none⟩ = some ((.slice A T.ses.length c)) := (hI.cell (p := ⟨B, 3, none⟩) hBN).trans e7
                have y4 : w8.cell? ⟨B, 4, none⟩ = some (.slice (some ⟨g, o, none⟩) T.lea.length c') := (hI.cell (p := ⟨B, 4, none⟩) hBN).trans e8
                clear hdep hfree
                try dsimp only
                simp [OpRuns, execOp, evalOf, a1, y0, y1, y2, y3, y4, go_sem]
                exact ⟨hI, ⟨fun _ => rfl, fun h => absurd hR h⟩⟩
              case o22 =>
                intro ev w8 hI hdep hfree
                have ag : ev 93 = .bool ((!nm) || (pk && le)) := hdep 20 93 (by kernel_rfl) (by kernel_rfl)
                refine ⟨fun hy => ?_, fun hn d hd => ?_⟩
                rotate_left
                · cases hd
                  exact ⟨fun hr => absurd ((yield_of (by kernel_rfl) ag).trans (congrArg some hr)) hn, fun _ => rfl⟩
                have hR : ((!nm) || (pk && le)) = false := Option.some.inj ((yield_of (by kernel_rfl) ag).symm.trans hy)
                clear hy ag
                have a6 : ev 6 = .pointer (some ⟨X, 0, none⟩) := hfree 6 (by kernel_rfl)
                clear hdep hfree
                try dsimp only
                simp [OpRuns, execOp, evalOf, a6, go_sem]
                exact ⟨hI, ⟨fun _ => rfl, fun h => absurd hR h⟩⟩
              case o23 =>
                intro ev w8 hI hdep hfree
                have ag : ev 93 = .bool ((!nm) || (pk && le)) := hdep 20 93 (by kernel_rfl) (by kernel_rfl)
                refine ⟨fun hy => ?_, fun hn d hd => ?_⟩
                rotate_left
                · cases hd
                  exact ⟨fun hr => absurd ((yield_of (by kernel_rfl) ag).trans (congrArg some hr)) hn, fun _ => rfl⟩
                have hR : ((!nm) || (pk && le)) = false := Option.some.inj ((yield_of (by kernel_rfl) ag).symm.trans hy)
                clear hy ag
                have a95 : ev 95 = .pointer (some ⟨X, 1, none⟩) := (hdep 22 95 (by kernel_rfl) (by kernel_rfl)).1 hR
                have y0 : w8.cell? ⟨X, 1, none⟩ = some (.int .i64 x.ses) := (hI.cell (p := ⟨X, 1, none⟩) hXN).trans e1
                clear hdep hfree
                try dsimp only
                simp [OpRuns, execOp, evalOf, a95, y0, go_sem]
                exact ⟨hI, ⟨fun _ => rfl, fun h => absurd hR h⟩⟩
              case o24 =>
                intro ev w8 hI hdep hfree
                have ag : ev 93 = .bool ((!nm) || (pk && le)) := hdep 20 93 (by kernel_rfl) (by kernel_rfl)
                refine ⟨fun hy => ?_, fun hn d hd => ?_⟩
                rotate_left
                · cases hd
                  exact ⟨fun hr => absurd ((yield_of (by kernel_rfl) ag).trans (congrArg some hr)) hn, fun _ => rfl⟩
                have hR : ((!nm) || (pk && le)) = false := Option.some.inj ((yield_of (by kernel_rfl) ag).symm.trans hy)
                clear hy ag
                have a94 : ev 94 = .agg #[.int .i64 T.now, .int .i64 T.ls, .int .i64 T.lf, (.slice A T.ses.length c), .slice (some ⟨g, o, none⟩) T.lea.length c'] := (hdep 21 94 (by kernel_rfl) (by kernel_rfl)).1 hR
                have a96 : ev 96 = .int .i64 x.ses := (hdep 23 96 (by kernel_rfl) (by kernel_rfl)).1 hR
                clear hdep hfree
                try dsimp only
                refine runs_call (f := 58) (args := #[.agg #[.int .i64 T.now, .int .i64 T.ls, .int .i64 T.lf, (.slice A T.ses.length c), .slice (some ⟨g, o, none⟩) T.lea.length c'], .int .i64 x.ses]) (by simp [execOp, evalOf, resolve, invoke, a94, a96, go_sem]) ((HIB.out w8 hI).mono ?_)
                rintro e w9 ⟨he, hb⟩
                exact ⟨_, he, hI.trans (hb.mono (HSZ.out w8 hI)), fun s u h => h, fun d hd => by cases hd; exact ⟨fun _ => rfl, fun h => absurd hR h⟩⟩
              case o25 =>
                intro ev w8 hI hdep hfree
                have ag : ev 93 = .bool ((!nm) || (pk && le)) := hdep 20 93 (by kernel_rfl) (by kernel_rfl)
                refine ⟨fun hy => ?_, fun hn d hd => ?_⟩
                rotate_left
                · cases hd
                  exact ⟨fun hr => absurd ((yield_of (by kernel_rfl) ag).trans (congrArg some hr)) hn, fun _ => rfl⟩
                have hR : ((!nm) || (pk && le)) = false := Option.some.inj ((yield_of (by kernel_rfl) ag).symm.trans hy)
                clear hy ag
                have a97 : ev 97 = .bool is := (hdep 24 97 (by kernel_rfl) (by kernel_rfl)).1 hR
                clear hdep hfree
                try dsimp only
                simp [OpRuns, execOp, evalOf, a97, go_sem]
                exact ⟨hI, ⟨fun _ => rfl, fun h => absurd hR h⟩⟩
              case o26 =>
                intro ev w8 hI hdep hfree
                have a93 : ev 93 = .bool ((!nm) || (pk && le)) := hdep 20 93 (by kernel_rfl) (by kernel_rfl)
                have ax : ((!nm) || (pk && le)) = false → ev 98 = .bool (!is) := fun hc => (hdep 25 98 (by kernel_rfl) (by kernel_rfl)).1 hc
                clear hdep hfree
                obtain ⟨cc, hcc⟩ : ∃ cc, cc = ((!nm) || (pk && le)) := ⟨_, rfl⟩
                rw [← hcc] at a93
                cases cc with
                | true =>
                  clear ax
                  have hv : Value.bool true = (Value.bool (((!nm) || (pk && le)) || (!is))) := by rw [← hcc]; simp
                  clear hcc
                  try dsimp only
                  simp [OpRuns, execOp, evalOf, a93, go_sem]
                  exact ⟨hI, hv⟩
                | false =>
                  have ax := ax hcc.symm
                  have hv : (Value.bool (!is)) = (Value.bool (((!nm) || (pk && le)) || (!is))) := by rw [← hcc]; simp
                  clear hcc
                  try dsimp only
                  simp [OpRuns, execOp, evalOf, a93, ax, go_sem]
                  exact ⟨hI, hv⟩
              case o27 =>
                intro ev w8 hI hdep hfree
                have a99 : ev 99 = .bool (((!nm) || (pk && le)) || (!is)) := hdep 26 99 (by kernel_rfl) (by kernel_rfl)
                clear hdep hfree
                try dsimp only
                simp [OpRuns, execOp, evalOf, a99, go_sem]
                exact ⟨hI, rfl⟩
              case o28 =>
                intro ev w8 hI hdep hfree
                have ag : ev 100 = .bool (((!nm) || (pk && le)) || (!is)) := hdep 27 100 (by kernel_rfl) (by kernel_rfl)
                refine ⟨fun hy => ?_, fun hn d hd => ?_⟩
                rotate_left
                · cases hd
                  exact ⟨fun hr => absurd ((yield_of (by kernel_rfl) ag).trans (congrArg some hr)) hn, fun _ => rfl⟩
                have hR : (((!nm) || (pk && le)) || (!is)) = false := Option.some.inj ((yield_of (by kernel_rfl) ag).symm.trans hy)
                clear hy ag
                have a6 : ev 6 = .pointer (some ⟨X, 0, none⟩) := hfree 6 (by kernel_rfl)
                clear hdep hfree
                try dsimp only
                simp [OpRuns, execOp, evalOf, a6, go_sem]
                exact ⟨hI, ⟨fun _ => rfl, fun h => absurd hR h⟩⟩
              case o29 =>
                intro ev w8 hI hdep hfree
                have ag : ev 100 = .bool (((!nm) || (pk && le)) || (!is)) := hdep 27 100 (by kernel_rfl) (by kernel_rfl)
                refine ⟨fun hy => ?_, fun hn d hd => ?_⟩
                rotate_left
                · cases hd
                  exact ⟨fun hr => absurd ((yield_of (by kernel_rfl) ag).trans (congrArg some hr)) hn, fun _ => rfl⟩
                have hR : (((!nm) || (pk && le)) || (!is)) = false := Option.some.inj ((yield_of (by kernel_rfl) ag).symm.trans hy)
                clear hy ag
                have a101 : ev 101 = .pointer (some ⟨X, 2, none⟩) := (hdep 28 101 (by kernel_rfl) (by kernel_rfl)).1 hR
                have y0 : w8.cell? ⟨X, 2, none⟩ = some (.int .i64 x.fen) := (hI.cell (p := ⟨X, 2, none⟩) hXN).trans e2
                clear hdep hfree
                try dsimp only
                simp [OpRuns, execOp, evalOf, a101, y0, go_sem]
                exact ⟨hI, ⟨fun _ => rfl, fun h => absurd hR h⟩⟩
              case o30 =>
                intro ev w8 hI hdep hfree
                have ag : ev 100 = .bool (((!nm) || (pk && le)) || (!is)) := hdep 27 100 (by kernel_rfl) (by kernel_rfl)
                refine ⟨fun hy => ?_, fun hn d hd => ?_⟩
                rotate_left
                · cases hd
                  exact ⟨fun hr => absurd ((yield_of (by kernel_rfl) ag).trans (congrArg some hr)) hn, fun _ => rfl⟩
                have hR : (((!nm) || (pk && le)) || (!is)) = false := Option.some.inj ((yield_of (by kernel_rfl) ag).symm.trans hy)
                clear hy ag
                have a102 : ev 102 = .int .i64 x.fen := (hdep 29 102 (by kernel_rfl) (by kernel_rfl)).1 hR
                clear hdep hfree
                try dsimp only
                simp [OpRuns, execOp, evalOf, a102, go_sem]
                exact ⟨hI, ⟨fun _ => congrArg Value.bool hf1, fun h => absurd hR h⟩⟩
              case o31 =>
                intro ev w8 hI hdep hfree
                have a100 : ev 100 = .bool (((!nm) || (pk && le)) || (!is)) := hdep 27 100 (by kernel_rfl) (by kernel_rfl)
                have ax : (((!nm) || (pk && le)) || (!is)) = false → ev 103 = .bool (f1) := fun hc => (hdep 30 103 (by kernel_rfl) (by kernel_rfl)).1 hc
                clear hdep hfree
                obtain ⟨cc, hcc⟩ : ∃ cc, cc = (((!nm) || (pk && le)) || (!is)) := ⟨_, rfl⟩
                rw [← hcc] at a100
                cases cc with
                | true =>
                  clear ax
                  have hv : Value.bool true = (Value.bool ((((!nm) || (pk && le)) || (!is)) || f1)) := by rw [← hcc]; simp
                  clear hcc
                  try dsimp only
                  simp [OpRuns, execOp, evalOf, a100, go_sem]
                  exact ⟨hI, hv⟩
                | false =>
                  have ax := ax hcc.symm
                  have hv : (Value.bool (f1)) = (Value.bool ((((!nm) || (pk && le)) || (!is)) || f1)) := by rw [← hcc]; simp
                  clear hcc
                  try dsimp only
                  simp [OpRuns, execOp, evalOf, a100, ax, go_sem]
                  exact ⟨hI, hv⟩
              case o32 =>
                intro ev w8 hI hdep hfree
                have a104 : ev 104 = .bool ((((!nm) || (pk && le)) || (!is)) || f1) := hdep 31 104 (by kernel_rfl) (by kernel_rfl)
                clear hdep hfree
                try dsimp only
                simp [OpRuns, execOp, evalOf, a104, go_sem]
                exact ⟨hI, rfl⟩
              case o33 =>
                intro ev w8 hI hdep hfree
                have ag : ev 105 = .bool ((((!nm) || (pk && le)) || (!is)) || f1) := hdep 32 105 (by kernel_rfl) (by kernel_rfl)
                refine ⟨fun hy => ?_, fun hn d hd => ?_⟩
                rotate_left
                · cases hd
                  exact ⟨fun hr => absurd ((yield_of (by kernel_rfl) ag).trans (congrArg some hr)) hn, fun _ => rfl⟩
                have hR : ((((!nm) || (pk && le)) || (!is)) || f1) = false := Option.some.inj ((yield_of (by kernel_rfl) ag).symm.trans hy)
                clear hy ag
                have a6 : ev 6 = .pointer (some ⟨X, 0, none⟩) := hfree 6 (by kernel_rfl)
                clear hdep hfree
                try dsimp only
                simp [OpRuns, execOp, evalOf, a6, go_sem]
                exact ⟨hI, ⟨fun _ => rfl, fun h => absurd hR h⟩⟩
              case o34 =>
                intro ev w8 hI hdep hfree
                have ag : ev 105 = .bool ((((!nm) || (pk && le)) || (!is)) || f1) := hdep 32 105 (by kernel_rfl) (by kernel_rfl)
                refine ⟨fun hy => ?_, fun hn d hd => ?_⟩
                rotate_left
                · cases hd
                  exact ⟨fun hr => absurd ((yield_of (by kernel_rfl) ag).trans (congrArg some hr)) hn, fun _ => rfl⟩
                have hR : ((((!nm) || (pk && le)) || (!is)) || f1) = false := Option.some.inj ((yield_of (by kernel_rfl) ag).symm.trans hy)
                clear hy ag
                have a106 : ev 106 = .pointer (some ⟨X, 2, none⟩) := (hdep 33 106 (by kernel_rfl) (by kernel_rfl)).1 hR
                have y0 : w8.cell? ⟨X, 2, none⟩ = some (.int .i64 x.fen) := (hI.cell (p := ⟨X, 2, none⟩) hXN).trans e2
                clear hdep hfree
                try dsimp only
                simp [OpRuns, execOp, evalOf, a106, y0, go_sem]
                exact ⟨hI, ⟨fun _ => rfl, fun h => absurd hR h⟩⟩
              case o35 =>
                intro ev w8 hI hdep hfree
                have ag : ev 105 = .bool ((((!nm) || (pk && le)) || (!is)) || f1) := hdep 32 105 (by kernel_rfl) (by kernel_rfl)
                refine ⟨fun hy => ?_, fun hn d hd => ?_⟩
                rotate_left
                · cases hd
                  exact ⟨fun hr => absurd ((yield_of (by kernel_rfl) ag).trans (congrArg some hr)) hn, fun _ => rfl⟩
                have hR : ((((!nm) || (pk && le)) || (!is)) || f1) = false := Option.some.inj ((yield_of (by kernel_rfl) ag).symm.trans hy)
                clear hy ag
                have a1 : ev 1 = .pointer (some ⟨B, 0, none⟩) := hfree 1 (by kernel_rfl)
                clear hdep hfree
                try dsimp only
                simp [OpRuns, execOp, evalOf, a1, go_sem]
                exact ⟨hI, ⟨fun _ => rfl, fun h => absurd hR h⟩⟩
              case o36 =>
                intro ev w8 hI hdep hfree
                have ag : ev 105 = .bool ((((!nm) || (pk && le)) || (!is)) || f1) := hdep 32 105 (by kernel_rfl) (by kernel_rfl)
                refine ⟨fun hy => ?_, fun hn d hd => ?_⟩
                rotate_left
                · cases hd
                  exact ⟨fun hr => absurd ((yield_of (by kernel_rfl) ag).trans (congrArg some hr)) hn, fun _ => rfl⟩
                have hR : ((((!nm) || (pk && le)) || (!is)) || f1) = false := Option.some.inj ((yield_of (by kernel_rfl) ag).symm.trans hy)
                clear hy ag
                have a108 : ev 108 = .pointer (some ⟨B, 2, none⟩) := (hdep 35 108 (by kernel_rfl) (by kernel_rfl)).1 hR
                have y0 : w8.cell? ⟨B, 2, none⟩ = some (.int .i64 T.lf) := (hI.cell (p := ⟨B, 2, none⟩) hBN).trans e6
                clear hdep hfree
                try dsimp only
                simp [OpRuns, execOp, evalOf, a108, y0, go_sem]
                exact ⟨hI, ⟨fun _ => rfl, fun h => absurd hR h⟩⟩
              case o37 =>
                intro ev w8 hI hdep hfree
                have ag : ev 105 = .bool ((((!nm) || (pk && le)) || (!is)) || f1) := hdep 32 105 (by kernel_rfl) (by kernel_rfl)
                refine ⟨fun hy => ?_, fun hn d hd => ?_⟩
                rotate_left
                · cases hd
                  exact ⟨fun hr => absurd ((yield_of (by kernel_rfl) ag).trans (congrArg some hr)) hn, fun _ => rfl⟩
                have hR : ((((!nm) || (pk && le)) || (!is)) || f1) = false := Option.some.inj ((yield_of (by kernel_rfl) ag).symm.trans hy)
                clear hy ag
                have a107 : ev 107 = .int .i64 x.fen := (hdep 34 107 (by kernel_rfl) (by kernel_rfl)).1 hR
                have a109 : ev 109 = .int .i64 T.lf := (hdep 36 109 (by kernel_rfl) (by kernel_rfl)).1 hR
                clear hdep hfree
                try dsimp only
                simp [OpRuns, execOp, evalOf, a107, a109, go_sem]
                exact ⟨hI, ⟨fun _ => congrArg Value.bool hf2, fun h => absurd hR h⟩⟩
              case o38 =>
                intro ev w8 hI hdep hfree
                have a105 : ev 105 = .bool ((((!nm) || (pk && le)) || (!is)) || f1) := hdep 32 105 (by kernel_rfl) (by kernel_rfl)
                have ax : ((((!nm) || (pk && le)) || (!is)) || f1) = false → ev 110 = .bool (f2) := fun hc => (hdep 37 110 (by kernel_rfl) (by kernel_rfl)).1 hc
                clear hdep hfree
                obtain ⟨cc, hcc⟩ : ∃ cc, cc = ((((!nm) || (pk && le)) || (!is)) || f1) := ⟨_, rfl⟩
                rw [← hcc] at a105
                cases cc with
                | true =>
                  clear ax
                  have hv : Value.bool true = (Value.bool (((((!nm) || (pk && le)) || (!is)) || f1) || f2)) := by rw [← hcc]; simp
                  clear hcc
                  try dsimp only
                  simp [OpRuns, execOp, evalOf, a105, go_sem]
                  exact ⟨hI, hv⟩
                | false =>
                  have ax := ax hcc.symm
                  have hv : (Value.bool (f2)) = (Value.bool (((((!nm) || (pk && le)) || (!is)) || f1) || f2)) := by rw [← hcc]; simp
                  clear hcc
                  try dsimp only
                  simp [OpRuns, execOp, evalOf, a105, ax, go_sem]
                  exact ⟨hI, hv⟩
              case o39 =>
                intro ev w8 hI hdep hfree
                have a111 : ev 111 = .bool (((((!nm) || (pk && le)) || (!is)) || f1) || f2) := hdep 38 111 (by kernel_rfl) (by kernel_rfl)
                clear hdep hfree
                try dsimp only
                simp [OpRuns, execOp, evalOf, a111, go_sem]
                exact ⟨hI, rfl⟩
              case o40 =>
                intro ev w8 hI hdep hfree
                have ag : ev 112 = .bool (((((!nm) || (pk && le)) || (!is)) || f1) || f2) := hdep 39 112 (by kernel_rfl) (by kernel_rfl)
                refine ⟨fun hy => ?_, fun hn d hd => ?_⟩
                rotate_left
                · cases hd
                  exact ⟨fun hr => absurd ((yield_of (by kernel_rfl) ag).trans (congrArg some hr)) hn, fun _ => rfl⟩
                have hR : (((((!nm) || (pk && le)) || (!is)) || f1) || f2) = false := Option.some.inj ((yield_of (by kernel_rfl) ag).symm.trans hy)
                clear hy ag
                have a6 : ev 6 = .pointer (some ⟨X, 0, none⟩) := hfree 6 (by kernel_rfl)
                clear hdep hfree
                try dsimp only
                simp [OpRuns, execOp, evalOf, a6, go_sem]
                exact ⟨hI, ⟨fun _ => rfl, fun h => absurd hR h⟩⟩
              case o41 =>
                intro ev w8 hI hdep hfree
                have ag : ev 112 = .bool (((((!nm) || (pk && le)) || (!is)) || f1) || f2) := hdep 39 112 (by kernel_rfl) (by kernel_rfl)
                refine ⟨fun hy => ?_, fun hn d hd => ?_⟩
                rotate_left
                · cases hd
                  exact ⟨fun hr => absurd ((yield_of (by kernel_rfl) ag).trans (congrArg some hr)) hn, fun _ => rfl⟩
                have hR : (((((!nm) || (pk && le)) || (!is)) || f1) || f2) = false := Option.some.inj ((yield_of (by kernel_rfl) ag).symm.trans hy)
                clear hy ag
                have a113 : ev 113 = .pointer (some ⟨X, 3, none⟩) := (hdep 40 113 (by kernel_rfl) (by kernel_rfl)).1 hR
                have y0 : w8.cell? ⟨X, 3, none⟩ = some (.int .i64 x.unt) := (hI.cell (p := ⟨X, 3, none⟩) hXN).trans e3
                clear hdep hfree
                try dsimp only
                simp [OpRuns, execOp, evalOf, a113, y0, go_sem]
                exact ⟨hI, ⟨fun _ => rfl, fun h => absurd hR h⟩⟩
              case o42 =>
                intro ev w8 hI hdep hfree
                have ag : ev 112 = .bool (((((!nm) || (pk && le)) || (!is)) || f1) || f2) := hdep 39 112 (by kernel_rfl) (by kernel_rfl)
                refine ⟨fun hy => ?_, fun hn d hd => ?_⟩
                rotate_left
                · cases hd
                  exact ⟨fun hr => absurd ((yield_of (by kernel_rfl) ag).trans (congrArg some hr)) hn, fun _ => rfl⟩
                have hR : (((((!nm) || (pk && le)) || (!is)) || f1) || f2) = false := Option.some.inj ((yield_of (by kernel_rfl) ag).symm.trans hy)
                clear hy ag
                have a1 : ev 1 = .pointer (some ⟨B, 0, none⟩) := hfree 1 (by kernel_rfl)
                clear hdep hfree
                try dsimp only
                simp [OpRuns, execOp, evalOf, a1, go_sem]
                exact ⟨hI, ⟨fun _ => rfl, fun h => absurd hR h⟩⟩
              case o43 =>
                intro ev w8 hI hdep hfree
                have ag : ev 112 = .bool (((((!nm) || (pk && le)) || (!is)) || f1) || f2) := hdep 39 112 (by kernel_rfl) (by kernel_rfl)
                refine ⟨fun hy => ?_, fun hn d hd => ?_⟩
                rotate_left
                · cases hd
                  exact ⟨fun hr => absurd ((yield_of (by kernel_rfl) ag).trans (congrArg some hr)) hn, fun _ => rfl⟩
                have hR : (((((!nm) || (pk && le)) || (!is)) || f1) || f2) = false := Option.some.inj ((yield_of (by kernel_rfl) ag).symm.trans hy)
                clear hy ag
                have a115 : ev 115 = .pointer (some ⟨B, 0, none⟩) := (hdep 42 115 (by kernel_rfl) (by kernel_rfl)).1 hR
                have y0 : w8.cell? ⟨B, 0, none⟩ = some (.int .i64 T.now) := (hI.cell (p := ⟨B, 0, none⟩) hBN).trans e4
                clear hdep hfree
                try dsimp only
                simp [OpRuns, execOp, evalOf, a115, y0, go_sem]
                exact ⟨hI, ⟨fun _ => rfl, fun h => absurd hR h⟩⟩
              case o44 =>
                intro ev w8 hI hdep hfree
                have ag : ev 112 = .bool (((((!nm) || (pk && le)) || (!is)) || f1) || f2) := hdep 39 112 (by kernel_rfl) (by kernel_rfl)
                refine ⟨fun hy => ?_, fun hn d hd => ?_⟩
                rotate_left
                · cases hd
                  exact ⟨fun hr => absurd ((yield_of (by kernel_rfl) ag).trans (congrArg some hr)) hn, fun _ => rfl⟩
                have hR : (((((!nm) || (pk && le)) || (!is)) || f1) || f2) = false := Option.some.inj ((yield_of (by kernel_rfl) ag).symm.trans hy)
                clear hy ag
                have a114 : ev 114 = .int .i64 x.unt := (hdep 41 114 (by kernel_rfl) (by kernel_rfl)).1 hR
                have a116 : ev 116 = .int .i64 T.now := (hdep 43 116 (by kernel_rfl) (by kernel_rfl)).1 hR
                clear hdep hfree
                try dsimp only
                simp [OpRuns, execOp, evalOf, a114, a116, go_sem]
                exact ⟨hI, ⟨fun _ => congrArg Value.bool hu1, fun h => absurd hR h⟩⟩
              case o45 =>
                intro ev w8 hI hdep hfree
                have a112 : ev 112 = .bool (((((!nm) || (pk && le)) || (!is)) || f1) || f2) := hdep 39 112 (by kernel_rfl) (by kernel_rfl)
                have ax : (((((!nm) || (pk && le)) || (!is)) || f1) || f2) = false → ev 117 = .bool (u1) := fun hc => (hdep 44 117 (by kernel_rfl) (by kernel_rfl)).1 hc
                clear hdep hfree
                obtain ⟨cc, hcc⟩ : ∃ cc, cc = (((((!nm) || (pk && le)) || (!is)) || f1) || f2) := ⟨_, rfl⟩
                rw [← hcc] at a112
                cases cc with
                | true =>
                  clear ax
                  have hv : Value.bool true = (Value.bool ((((((!nm) || (pk && le)) || (!is)) || f1) || f2) || u1)) := by rw [← hcc]; simp
                  clear hcc
                  try dsimp only
                  simp [OpRuns, execOp, evalOf, a112, go_sem]
                  exact ⟨hI, hv⟩
                | false =>
                  have ax := ax hcc.symm
                  have hv : (Value.bool (u1)) = (Value.bool ((((((!nm) || (pk && le)) || (!is)) || f1) || f2) || u1)) := by rw [← hcc]; simp
                  clear hcc
                  try dsimp only
                  simp [OpRuns, execOp, evalOf, a112, ax, go_sem]
                  exact ⟨hI, hv⟩
              case o46 =>
                intro ev w8 hI hdep hfree
                have a118 : ev 118 = .bool ((((((!nm) || (pk && le)) || (!is)) || f1) || f2) || u1) := hdep 45 118 (by kernel_rfl) (by kernel_rfl)
                clear hdep hfree
                try dsimp only
                simp [OpRuns, execOp, evalOf, a118, go_sem]
                exact ⟨hI, rfl⟩
              case o47 =>
                intro ev w8 hI hdep hfree
                have ag : ev 119 = .bool ((((((!nm) || (pk && le)) || (!is)) || f1) || f2) || u1) := hdep 46 119 (by kernel_rfl) (by kernel_rfl)
                refine ⟨fun hy => ?_, fun hn d hd => ?_⟩
                rotate_left
                · cases hd
                  exact ⟨fun hr => absurd ((yield_of (by kernel_rfl) ag).trans (congrArg some hr)) hn, fun _ => rfl⟩
                have hR : ((((((!nm) || (pk && le)) || (!is)) || f1) || f2) || u1) = false := Option.some.inj ((yield_of (by kernel_rfl) ag).symm.trans hy)
                clear hy ag
                have a6 : ev 6 = .pointer (some ⟨X, 0, none⟩) := hfree 6 (by kernel_rfl)
                clear hdep hfree
                try dsimp only
                simp [OpRuns, execOp, evalOf, a6, go_sem]
                exact ⟨hI, ⟨fun _ => rfl, fun h => absurd hR h⟩⟩
              case o48 =>
                intro ev w8 hI hdep hfree
                have ag : ev 119 = .bool ((((((!nm) || (pk && le)) || (!is)) || f1) || f2) || u1) := hdep 46 119 (by kernel_rfl) (by kernel_rfl)
                refine ⟨fun hy => ?_, fun hn d hd => ?_⟩
                rotate_left
                · cases hd
                  exact ⟨fun hr => absurd ((yield_of (by kernel_rfl) ag).trans (congrArg some hr)) hn, fun _ => rfl⟩
                have hR : ((((((!nm) || (pk && le)) || (!is)) || f1) || f2) || u1) = false := Option.some.inj ((yield_of (by kernel_rfl) ag).symm.trans hy)
                clear hy ag
                have a120 : ev 120 = .pointer (some ⟨X, 3, none⟩) := (hdep 47 120 (by kernel_rfl) (by kernel_rfl)).1 hR
                have y0 : w8.cell? ⟨X, 3, none⟩ = some (.int .i64 x.unt) := (hI.cell (p := ⟨X, 3, none⟩) hXN).trans e3
                clear hdep hfree
                try dsimp only
                simp [OpRuns, execOp, evalOf, a120, y0, go_sem]
                exact ⟨hI, ⟨fun _ => rfl, fun h => absurd hR h⟩⟩
              case o49 =>
                intro ev w8 hI hdep hfree
                have ag : ev 119 = .bool ((((((!nm) || (pk && le)) || (!is)) || f1) || f2) || u1) := hdep 46 119 (by kernel_rfl) (by kernel_rfl)
                refine ⟨fun hy => ?_, fun hn d hd => ?_⟩
                rotate_left
                · cases hd
                  exact ⟨fun hr => absurd ((yield_of (by kernel_rfl) ag).trans (congrArg some hr)) hn, fun _ => rfl⟩
                have hR : ((((((!nm) || (pk && le)) || (!is)) || f1) || f2) || u1) = false := Option.some.inj ((yield_of (by kernel_rfl) ag).symm.trans hy)
                clear hy ag
                have a1 : ev 1 = .pointer (some ⟨B, 0, none⟩) := hfree 1 (by kernel_rfl)
                clear hdep hfree
                try dsimp only
                simp [OpRuns, execOp, evalOf, a1, go_sem]
                exact ⟨hI, ⟨fun _ => rfl, fun h => absurd hR h⟩⟩
              case o50 =>
                intro ev w8 hI hdep hfree
                have ag : ev 119 = .bool ((((((!nm) || (pk && le)) || (!is)) || f1) || f2) || u1) := hdep 46 119 (by kernel_rfl) (by kernel_rfl)
                refine ⟨fun hy => ?_, fun hn d hd => ?_⟩
                rotate_left
                · cases hd
                  exact ⟨fun hr => absurd ((yield_of (by kernel_rfl) ag).trans (congrArg some hr)) hn, fun _ => rfl⟩
                have hR : ((((((!nm) || (pk && le)) || (!is)) || f1) || f2) || u1) = false := Option.some.inj ((yield_of (by kernel_rfl) ag).symm.trans hy)
                clear hy ag
                have a122 : ev 122 = .pointer (some ⟨B, 0, none⟩) := (hdep 49 122 (by kernel_rfl) (by kernel_rfl)).1 hR
                have y0 : w8.cell? ⟨B, 0, none⟩ = some (.int .i64 T.now) := (hI.cell (p := ⟨B, 0, none⟩) hBN).trans e4
                clear hdep hfree
                try dsimp only
                simp [OpRuns, execOp, evalOf, a122, y0, go_sem]
                exact ⟨hI, ⟨fun _ => rfl, fun h => absurd hR h⟩⟩
              case o51 =>
                intro ev w8 hI hdep hfree
                have ag : ev 119 = .bool ((((((!nm) || (pk && le)) || (!is)) || f1) || f2) || u1) := hdep 46 119 (by kernel_rfl) (by kernel_rfl)
                refine ⟨fun hy => ?_, fun hn d hd => ?_⟩
                rotate_left
                · cases hd
                  exact ⟨fun hr => absurd ((yield_of (by kernel_rfl) ag).trans (congrArg some hr)) hn, fun _ => rfl⟩
                have hR : ((((((!nm) || (pk && le)) || (!is)) || f1) || f2) || u1) = false := Option.some.inj ((yield_of (by kernel_rfl) ag).symm.trans hy)
                clear hy ag
                have a123 : ev 123 = .int .i64 T.now := (hdep 50 123 (by kernel_rfl) (by kernel_rfl)).1 hR
                clear hdep hfree
                try dsimp only
                simp [OpRuns, execOp, evalOf, a123, hsum, go_sem]
                exact ⟨hI, ⟨fun _ => rfl, fun h => absurd hR h⟩⟩
              case o52 =>
                intro ev w8 hI hdep hfree
                have ag : ev 119 = .bool ((((((!nm) || (pk && le)) || (!is)) || f1) || f2) || u1) := hdep 46 119 (by kernel_rfl) (by kernel_rfl)
                refine ⟨fun hy => ?_, fun hn d hd => ?_⟩
                rotate_left
                · cases hd
                  exact ⟨fun hr => absurd ((yield_of (by kernel_rfl) ag).trans (congrArg some hr)) hn, fun _ => rfl⟩
                have hR : ((((((!nm) || (pk && le)) || (!is)) || f1) || f2) || u1) = false := Option.some.inj ((yield_of (by kernel_rfl) ag).symm.trans hy)
                clear hy ag
                have a121 : ev 121 = .int .i64 x.unt := (hdep 48 121 (by kernel_rfl) (by kernel_rfl)).1 hR
                have a124 : ev 124 = .int .i64 (T.now + 600) := (hdep 51 124 (by kernel_rfl) (by kernel_rfl)).1 hR
                clear hdep hfree
                try dsimp only
                simp [OpRuns, execOp, evalOf, a121, a124, go_sem]
                exact ⟨hI, ⟨fun _ => congrArg Value.bool hu2, fun h => absurd hR h⟩⟩
              case o53 =>
                intro ev w8 hI hdep hfree
                have a119 : ev 119 = .bool ((((((!nm) || (pk && le)) || (!is)) || f1) || f2) || u1) := hdep 46 119 (by kernel_rfl) (by kernel_rfl)
                have ax : ((((((!nm) || (pk && le)) || (!is)) || f1) || f2) || u1) = false → ev 125 = .bool (u2) := fun hc => (hdep 52 125 (by kernel_rfl) (by kernel_rfl)).1 hc
                clear hdep hfree
                obtain ⟨cc, hcc⟩ : ∃ cc, cc = ((((((!nm) || (pk && le)) || (!is)) || f1) || f2) || u1) := ⟨_, rfl⟩
                rw [← hcc] at a119
                cases cc with
                | true =>
                  clear ax
                  have hv : Value.bool true = (Value.bool (((((((!nm) || (pk && le)) || (!is)) || f1) || f2) || u1) || u2)) := by rw [← hcc]; simp
                  clear hcc
                  try dsimp only
                  simp [OpRuns, execOp, evalOf, a119, go_sem]
                  exact ⟨hI, hv⟩
                | false =>
                  have ax := ax hcc.symm
                  have hv : (Value.bool (u2)) = (Value.bool (((((((!nm) || (pk && le)) || (!is)) || f1) || f2) || u1) || u2)) := by rw [← hcc]; simp
                  clear hcc
                  try dsimp only
                  simp [OpRuns, execOp, evalOf, a119, ax, go_sem]
                  exact ⟨hI, hv⟩
            case hend =>
              intro a w6 hdf hsz hI hPhi hkept
              replace hdf : a.defers = [] := hdf
              replace hsz : a.tmps.size = 143 := hsz
              have x126 : a.tmps.getD 126 undef = .bool (((((((!nm) || (pk && le)) || (!is)) || f1) || f2) || u1) || u2) := hPhi 53 126 (by kernel_rfl)
              have x0 : a.tmps.getD 0 undef = refV T (Value.slice A T.ses.length c) (Value.slice (some { block := g, off := o }) T.lea.length c') := hkept 0 (kept_all (by kernel_rfl))
              have x1 : a.tmps.getD 1 undef = Value.pointer (some { block := B, off := 0 }) := hkept 1 (kept_all (by kernel_rfl))
              have x3 : a.tmps.getD 3 undef = u3 := hkept 3 (kept_all (by kernel_rfl))
              have x4 : a.tmps.getD 4 undef = u4 := hkept 4 (kept_all (by kernel_rfl))
              have x5 : a.tmps.getD 5 undef = Value.int IntKind.i64 (↑k : Int) := hkept 5 (kept_all (by kernel_rfl))
              have x6 : a.tmps.getD 6 undef = Value.pointer (some { block := X, off := 0 }) := hkept 6 (kept_all (by kernel_rfl))
              have x7 : a.tmps.getD 7 undef = undef := hkept 7 (kept_all (by kernel_rfl))
              have x8 : a.tmps.getD 8 undef = u8 := hkept 8 (kept_all (by kernel_rfl))
              have x9 : a.tmps.getD 9 undef = Value.pointer (some { block := B, off := 0 }) := hkept 9 (kept_all (by kernel_rfl))
              have x10 : a.tmps.getD 10 undef = Value.int IntKind.i64 T.now := hkept 10 (kept_all (by kernel_rfl))
              have x11 : a.tmps.getD 11 undef = Value.bool (decide (10378368000 < T.now)) := hkept 11 (kept_all (by kernel_rfl))
              have x12 : a.tmps.getD 12 undef = Value.bool (decide (10378368000 < T.now)) := hkept 12 (kept_all (by kernel_rfl))
              have x13 : a.tmps.getD 13 undef = Value.pointer (some { block := B, off := 1 }) := hkept 13 (kept_all (by kernel_rfl))
              have x14 : a.tmps.getD 14 undef = Value.int IntKind.i64 T.ls := hkept 14 (kept_all (by kernel_rfl))
              have x15 : a.tmps.getD 15 undef = Value.bool (decide (1099511627776 < T.ls)) := hkept 15 (kept_all (by kernel_rfl))
              have x16 : a.tmps.getD 16 undef = Value.bool (decide (10378368000 < T.now) || decide (1099511627776 < T.ls)) := hkept 16 (kept_all (by kernel_rfl))
              have x17 : a.tmps.getD 17 undef = Value.bool (decide (10378368000 < T.now) || decide (1099511627776 < T.ls)) := hkept 17 (kept_all (by kernel_rfl))
              have x18 : a.tmps.getD 18 undef = Value.pointer (some { block := B, off := 2 }) := hkept 18 (kept_all (by kernel_rfl))
              have x19 : a.tmps.getD 19 undef = Value.int IntKind.i64 T.lf := hkept 19 (kept_all (by kernel_rfl))
              have x20 : a.tmps.getD 20 undef = Value.bool (decide (1099511627776 < T.lf)) := hkept 20 (kept_all (by kernel_rfl))
              have x21 : a.tmps.getD 21 undef = Value.bool (decide (10378368000 < T.now) || decide (1099511627776 < T.ls) || decide (1099511627776 < T.lf)) := hkept 21 (kept_all (by kernel_rfl))
              have x22 : a.tmps.getD 22 undef = Value.bool (decide (10378368000 < T.now) || decide (1099511627776 < T.ls) || decide (1099511627776 < T.lf)) := hkept 22 (kept_all (by kernel_rfl))
              have x23 : a.tmps.getD 23 undef = Value.pointer (some { block := B, off := 3 }) := hkept 23 (kept_all (by kernel_rfl))
              have x24 : a.tmps.getD 24 undef = Value.slice A T.ses.length c := hkept 24 (kept_all (by kernel_rfl))
              have x25 : a.tmps.getD 25 undef = Value.int IntKind.i64 (↑T.ses.length : Int) := hkept 25 (kept_all (by kernel_rfl))
              have x26 : a.tmps.getD 26 undef = Value.bool (decide (8 < (↑T.ses.length : Int))) := hkept 26 (kept_all (by kernel_rfl))
              have x27 : a.tmps.getD 27 undef = Value.bool (decide (10378368000 < T.now) || decide (1099511627776 < T.ls) || decide (1099511627776 < T.lf) || decide (8 < (↑T.ses.length : Int))) := hkept 27 (kept_all (by kernel_rfl))
              have x28 : a.tmps.getD 28 undef = Value.bool (decide (10378368000 < T.now) || decide (1099511627776 < T.ls) || decide (1099511627776 < T.lf) || decide (8 < (↑T.ses.length : Int))) := hkept 28 (kept_all (by kernel_rfl))
              have x29 : a.tmps.getD 29 undef = Value.pointer (some { block := B, off := 4 }) := hkept 29 (kept_all (by kernel_rfl))
              have x30 : a.tmps.getD 30 undef = Value.slice (some { block := g, off := o }) T.lea.length c' := hkept 30 (kept_all (by kernel_rfl))
              have x31 : a.tmps.getD 31 undef = Value.int IntKind.i64 (↑T.lea.length : Int) := hkept 31 (kept_all (by kernel_rfl))
              have x32 : a.tmps.getD 32 undef = Value.bool (decide (16 < (↑T.lea.length : Int))) := hkept 32 (kept_all (by kernel_rfl))
              have x33 : a.tmps.getD 33 undef = Value.bool (decide (10378368000 < T.now) || decide (1099511627776 < T.ls) || decide (1099511627776 < T.lf) || decide (8 < (↑T.ses.length : Int)) || decide (16 < (↑T.lea.length : Int))) := hkept 33 (kept_all (by kernel_rfl))
              have x34 : a.tmps.getD 34 undef = Value.pointer (some { block := B, off := 3 }) := hkept 34 (kept_all (by kernel_rfl))
              have x35 : a.tmps.getD 35 undef = Value.slice A T.ses.length c := hkept 35 (kept_all (by kernel_rfl))
              have x36 : a.tmps.getD 36 undef = Value.int IntKind.i64 (↑T.ses.length : Int) := hkept 36 (kept_all (by kernel_rfl))
              have x37 : a.tmps.getD 37 undef = Value.int IntKind.i64 (↑T.ses.length : Int) := hkept 37 (kept_all (by kernel_rfl))
              have x38 : a.tmps.getD 38 undef = Value.bool false := hkept 38 (kept_all (by kernel_rfl))
              have x39 : a.tmps.getD 39 undef = u39 := hkept 39 (kept_all (by kernel_rfl))
              have x40 : a.tmps.getD 40 undef = u40 := hkept 40 (kept_all (by kernel_rfl))
              have x41 : a.tmps.getD 41 undef = u41 := hkept 41 (kept_all (by kernel_rfl))
              have x42 : a.tmps.getD 42 undef = u42 := hkept 42 (kept_all (by kernel_rfl))
              have x43 : a.tmps.getD 43 undef = u43 := hkept 43 (kept_all (by kernel_rfl))
              have x44 : a.tmps.getD 44 undef = u44 := hkept 44 (kept_all (by kernel_rfl))
              have x45 : a.tmps.getD 45 undef = u45 := hkept 45 (kept_all (by kernel_rfl))
              have x46 : a.tmps.getD 46 undef = u46 := hkept 46 (kept_all (by kernel_rfl))
              have x47 : a.tmps.getD 47 undef = u47 := hkept 47 (kept_all (by kernel_rfl))
              have x48 : a.tmps.getD 48 undef = u48 := hkept 48 (kept_all (by kernel_rfl))
              have x49 : a.tmps.getD 49 undef = u49 := hkept 49 (kept_all (by kernel_rfl))
              have x50 : a.tmps.getD 50 undef = u50 := hkept 50 (kept_all (by kernel_rfl))
              have x51 : a.tmps.getD 51 undef = u51 := hkept 51 (kept_all (by kernel_rfl))
              have x52 : a.tmps.getD 52 undef = u52 := hkept 52 (kept_all (by kernel_rfl))
              have x53 : a.tmps.getD 53 undef = u53 := hkept 53 (kept_all (by kernel_rfl))
              have x54 : a.tmps.getD 54 undef = u54 := hkept 54 (kept_all (by kernel_rfl))
              have x55 : a.tmps.getD 55 undef = u55 := hkept 55 (kept_all (by kernel_rfl))
              have x56 : a.tmps.getD 56 undef = u56 := hkept 56 (kept_all (by kernel_rfl))
              have x57 : a.tmps.getD 57 undef = u57 := hkept 57 (kept_all (by kernel_rfl))
              have x58 : a.tmps.getD 58 undef = u58 := hkept 58 (kept_all (by kernel_rfl))
              have x59 : a.tmps.getD 59 undef = u59 := hkept 59 (kept_all (by kernel_rfl))
              have x60 : a.tmps.getD 60 undef = u60 := hkept 60 (kept_all (by kernel_rfl))
              have x61 : a.tmps.getD 61 undef = u61 := hkept 61 (kept_all (by kernel_rfl))
              have x62 : a.tmps.getD 62 undef = u62 := hkept 62 (kept_all (by kernel_rfl))
              have x63 : a.tmps.getD 63 undef = u63 := hkept 63 (kept_all (by kernel_rfl))
              have x64 : a.tmps.getD 64 undef = u64 := hkept 64 (kept_all (by kernel_rfl))
              have x65 : a.tmps.getD 65 undef = Value.pointer (some { block := B, off := 4 }) := hkept 65 (kept_all (by kernel_rfl))
              have x66 : a.tmps.getD 66 undef = Value.slice (some { block := g, off := o }) T.lea.length c' := hkept 66 (kept_all (by kernel_rfl))
              have x67 : a.tmps.getD 67 undef = Value.int IntKind.i64 (↑T.lea.length : Int) := hkept 67 (kept_all (by kernel_rfl))
              have x68 : a.tmps.getD 68 undef = Value.int IntKind.i64 (↑k : Int) := hkept 68 (kept_all (by kernel_rfl))
              have x69 : a.tmps.getD 69 undef = Value.bool true := hkept 69 (kept_all (by kernel_rfl))
              have x70 : a.tmps.getD 70 undef = Value.int IntKind.i64 (↑k : Int) := hkept 70 (kept_all (by kernel_rfl))
              have x71 : a.tmps.getD 71 undef = Value.pointer (some { block := g, off := o + k * 4 }) := hkept 71 (kept_all (by kernel_rfl))
              have x72 : a.tmps.getD 72 undef = Value.agg #[Value.string (sB x.reel), Value.int IntKind.i64 x.ses, Value.int IntKind.i64 x.fen, Value.int IntKind.i64 x.unt] := hkept 72 (kept_all (by kernel_rfl))
              have x127 : a.tmps.getD 127 undef = u127 := hkept 127 (kept_all (by kernel_rfl))
              have x128 : a.tmps.getD 128 undef = u128 := hkept 128 (kept_all (by kernel_rfl))
              have x129 : a.tmps.getD 129 undef = u129 := hkept 129 (kept_all (by kernel_rfl))
              have x130 : a.tmps.getD 130 undef = u130 := hkept 130 (kept_all (by kernel_rfl))
              have x131 : a.tmps.getD 131 undef = u131 := hkept 131 (kept_all (by kernel_rfl))
              have x132 : a.tmps.getD 132 undef = u132 := hkept 132 (kept_all (by kernel_rfl))
              have x133 : a.tmps.getD 133 undef = u133 := hkept 133 (kept_all (by kernel_rfl))
              have x134 : a.tmps.getD 134 undef = u134 := hkept 134 (kept_all (by kernel_rfl))
              have x135 : a.tmps.getD 135 undef = u135 := hkept 135 (kept_all (by kernel_rfl))
              have x136 : a.tmps.getD 136 undef = u136 := hkept 136 (kept_all (by kernel_rfl))
              have x137 : a.tmps.getD 137 undef = u137 := hkept 137 (kept_all (by kernel_rfl))
              have x138 : a.tmps.getD 138 undef = u138 := hkept 138 (kept_all (by kernel_rfl))
              have x139 : a.tmps.getD 139 undef = u139 := hkept 139 (kept_all (by kernel_rfl))
              have x140 : a.tmps.getD 140 undef = u140 := hkept 140 (kept_all (by kernel_rfl))
              have x141 : a.tmps.getD 141 undef = u141 := hkept 141 (kept_all (by kernel_rfl))
              have x142 : a.tmps.getD 142 undef = u142 := hkept 142 (kept_all (by kernel_rfl))
              have ea := act_lit hsz hdf
              simp only [getDs] at ea
              rw [x126, x0, x1, x3, x4, x5, x6, x7, x8, x9, x10, x11, x12, x13, x14, x15, x16, x17, x18, x19, x20, x21, x22, x23, x24, x25, x26, x27, x28, x29, x30, x31, x32, x33, x34, x35, x36, x37, x38, x39, x40, x41, x42, x43, x44, x45, x46, x47, x48, x49, x50, x51, x52, x53, x54, x55, x56, x57, x58, x59, x60, x61, x62, x63, x64, x65, x66, x67, x68, x69, x70, x71, x72, x127, x128, x129, x130, x131, x132, x133, x134, x135, x136, x137, x138, x139, x140, x141, x142] at ea
              rw [ea]
              clear ea x126 x0 x1 x3 x4 x5 x6 x7 x8 x9 x10 x11 x12 x13 x14 x15 x16 x17 x18 x19 x20 x21 x22 x23 x24 x25 x26 x27 x28 x29 x30 x31 x32 x33 x34 x35 x36 x37 x38 x39 x40 x41 x42 x43 x44 x45 x46 x47 x48 x49 x50 x51 x52 x53 x54 x55 x56 x57 x58 x59 x60 x61 x62 x63 x64 x65 x66 x67 x68 x69 x70 x71 x72 x127 x128 x129 x130 x131 x132 x133 x134 x135 x136 x137 x138 x139 x140 x141 x142 hPhi hkept hdf hsz
              generalize a.tmps.getD 2 undef = u2
              generalize a.tmps.getD 73 undef = u73
              generalize a.tmps.getD 74 undef = u74
              generalize a.tmps.getD 75 undef = u75
              generalize a.tmps.getD 76 undef = u76
              generalize a.tmps.getD 77 undef = u77
              generalize a.tmps.getD 78 undef = u78
              generalize a.tmps.getD 79 undef = u79
              generalize a.tmps.getD 80 undef = u80
              generalize a.tmps.getD 81 undef = u81
              generalize a.tmps.getD 82 undef = u82
              generalize a.tmps.getD 83 undef = u83
              generalize a.tmps.getD 84 undef = u84
              generalize a.tmps.getD 85 undef = u85
              generalize a.tmps.getD 86 undef = u86
              generalize a.tmps.getD 87 undef = u87
              generalize a.tmps.getD 88 undef = u88
              generalize a.tmps.getD 89 undef = u89
              generalize a.tmps.getD 90 undef = u90
              generalize a.tmps.getD 91 undef = u91
              generalize a.tmps.getD 92 undef = u92
              generalize a.tmps.getD 93 undef = u93
              generalize a.tmps.getD 94 undef = u94
              generalize a.tmps.getD 95 undef = u95
              generalize a.tmps.getD 96 undef = u96
              generalize a.tmps.getD 97 undef = u97
              generalize a.tmps.getD 98 undef = u98
              generalize a.tmps.getD 99 undef = u99
              generalize a.tmps.getD 100 undef = u100
              generalize a.tmps.getD 101 undef = u101
              generalize a.tmps.getD 102 undef = u102
              generalize a.tmps.getD 103 undef = u103
              generalize a.tmps.getD 104 undef = u104
              generalize a.tmps.getD 105 undef = u105
              generalize a.tmps.getD 106 undef = u106
              generalize a.tmps.getD 107 undef = u107
              generalize a.tmps.getD 108 undef = u108
              generalize a.tmps.getD 109 undef = u109
              generalize a.tmps.getD 110 undef = u110
              generalize a.tmps.getD 111 undef = u111
              generalize a.tmps.getD 112 undef = u112
              generalize a.tmps.getD 113 undef = u113
              generalize a.tmps.getD 114 undef = u114
              generalize a.tmps.getD 115 undef = u115
              generalize a.tmps.getD 116 undef = u116
              generalize a.tmps.getD 117 undef = u117
              generalize a.tmps.getD 118 undef = u118
              generalize a.tmps.getD 119 undef = u119
              generalize a.tmps.getD 120 undef = u120
              generalize a.tmps.getD 121 undef = u121
              generalize a.tmps.getD 122 undef = u122
              generalize a.tmps.getD 123 undef = u123
              generalize a.tmps.getD 124 undef = u124
              generalize a.tmps.getD 125 undef = u125
              clear a
              rw [← HP.out.2.2.2.2.2.2]
              clear hpk1 hpk2 hf1 hf2 hu1 hu2 hsum kle2 m4 m4' m3 e0 e1 e2 e3 e4 e5 e6 e7 e8 e9
              have HI6 := Lib.hid hI
              have HG6 := Lib.hid (show Below w.heap.size w w6 from HGW2.out.trans (hI.mono GN.out))
              have hN6 : N ≤ w6.heap.size := HSZ.out _ hI
              have e2 : w6.cell? ⟨X, 2, none⟩ = some (.int .i64 x.fen) := (hI.cell (p := ⟨X, 2, none⟩) hXN).trans (FX.out.cell 2)
              have e8 : w6.cell? ⟨B, 4, none⟩ = some (.slice (some ⟨g, o, none⟩) T.lea.length c') := ((G5.out.trans (hI.mono HDN.out)).cell (p := ⟨B, 4, none⟩) hBD).trans (HQ.out 4)
              clear hI HSZ HIB HNM HIS HA1 HGW2
              cases hr : res with
              | true =>
                have HF := Lib.hid (HBAD.out hr)
                clear hr
                go_wp2_with fail
                exact HNO.out HF.out _ HG6.out
              | false =>
                have HOK := Lib.hid (HGOOD.out hr)
                have hk3 : (k : Int) ≤ (T.lea.length : Int) := by omega
                have hk4 : (k : Int) ≤ (c' : Int) := by have := HCC.out.1; omega
                have hk5 : (T.lea.length : Int) ≤ (c' : Int) := by have := HCC.out.1; omega
                clear hr HBAD HGOOD
                go_wp2_with fail
                clear e2 e8
                obtain ⟨M, hM⟩ : ∃ M, M = w6.heap.size := ⟨_, rfl⟩
                have HM := Lib.hid hM
                have hNM : N ≤ M := by omega
                clear hM hN6
                go_loopw [132] (fun i wq => ∃ j : Nat, j ≤ k ∧ i = .int .i64 j ∧ Hid (∀ y ∈ T.lea.take j, y.fen ≠ x.fen) ∧ Hid (Below M w6 wq)) (fun i _ => k - (intOf i).toNat)
                case atStart => exact ⟨0, by omega, rfl, Lib.hid (fun y hy => by simp at hy), Lib.hid (Below.refl _ _)⟩
                case round =>
                  obtain ⟨j, hj, rfl, HJ, G7⟩ := hrel
                  have hMw : M ≤ wr.heap.size := by have := G7.out.size; have := HM.out; omega
                  have HGR := Lib.hid (show Below w.heap.size w wr from HG6.out.trans (G7.out.mono (by have := GN.out; omega)))
                  by_cases hjk : j < k
                  · have hjk2 : (j : Int) < (k : Int) := by omega
                    obtain ⟨z, hz⟩ : ∃ z, T.lea[j]? = some z := ⟨_, List.getElem?_eq_getElem (by omega)⟩
                    have HZ := Lib.hid hz
                    obtain ⟨q0, q1, q2, q3⟩ := LeasAt.get (HA'.out.below HGR.out (Nat.le_refl _)) hz
                    have hgr : g < wr.heap.size := World.block_lt_of_cell? wr _ q0
                    have e2 : wr.cell? ⟨X, 2, none⟩ = some (.int .i64 x.fen) := ((HI6.out.trans (G7.out.mono hNM)).cell (p := ⟨X, 2, none⟩) hXN).trans (FX.out.cell 2)
                    have hXw : X < wr.heap.size := by omega
                    clear hz
                    by_cases hf : x.fen = z.fen
                    · have t1 : (x.fen == z.fen) = true := by simpa using hf
                      have HF := Lib.hid (show ¬ Snd T from fun hs => hs.fen_at hjk HZ.out HX.out hf.symm)
                      clear hf
                      go_wp2_with fail
                      exact HNO.out HF.out _ (HGR.out.trans ((below_one _ _).mono HGR.out.size))
                    · have t1 : (x.fen == z.fen) = false := by simpa using hf
                      have HJ2 := Lib.hid (show ∀ y ∈ T.lea.take (j + 1), y.fen ≠ x.fen from fun y hy => by
                        rw [take_snoc HZ.out] at hy
                        rcases List.mem_append.1 hy with hy | hy
                        · exact HJ.out y hy
                        · rw [List.mem_singleton.1 hy]; exact Ne.symm hf)
                      clear hf
                      go_wp2_with fail
                      go_roundw
                      case rel => exact ⟨j + 1, by omega, by go_num, HJ2, Lib.hid (G7.out.alloc hMw _)⟩
                      case measure => simp [intOf]; omega
                  · obtain rfl : j = k := by omega
                    have HL2 := Lib.hid (HL.out.next HX.out HOK.out.1 HOK.out.2 HJ.out)
                    have GD := Lib.hid (show Below D _ wr from (G5.out.trans (HI6.out.mono HDN.out)).trans (G7.out.mono (Nat.le_trans HDN.out hNM)))
                    clear hjk
                    go_wp2_with fail
                    go_roundw
                    case rel => exact ⟨j + 1, by omega, by go_num, HL2, GD⟩
                    case measure => simp [intOf]; omega
          · obtain rfl : k = T.lea.length := by omega
            have HS := Lib.hid (show Snd T from snd_of HIN.out HH.out.1 HH.out.2.1 HH.out.2.2.1 HH.out.2.2.2.1 HH.out.2.2.2.2 HKS.out HL.out)
            clear hlt
            go_wp2_with fail
            exact HYES.out HS.out _ HGW.out
end Go.Proofs.YtneiljaknmeagaaGreatDoor
