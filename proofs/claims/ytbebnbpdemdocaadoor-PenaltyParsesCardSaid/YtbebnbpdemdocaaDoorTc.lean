/-
  The contracts of a decimal of at most nine digits, in the program and in the reference. Their conditions are their hypotheses.
-/
import Derived.Test.YtbebnbpdemdocaaDoorTb
import Derived.Lib.ConvBytes
namespace Go.Proofs.YtbebnbpdemdocaaDoor
open Go.RowKit Go.Joins
set_option linter.unusedVariables false
set_option linter.unusedSimpArgs false
def numQ (l : List UInt8) : Int × Bool := match numP l with | some n => (n, true) | none => (0, false)
theorem numQ_some {l : List UInt8} {n : Int} (h : numP l = some n) : numQ l = (n, true) := by simp [numQ, h]
theorem numQ_none {l : List UInt8} (h : numP l = none) : numQ l = (0, false) := by simp [numQ, h]
theorem len_data (s : ByteArray) : s.data.toList.length = s.size := by simp
theorem drop_byte (s : ByteArray) {k : Nat} (hk : k < s.size) : s.data.toList.drop k = s[k] :: s.data.toList.drop (k + 1) := by
  have hk' : k < s.data.toList.length := by simpa using hk
  rw [List.drop_eq_getElem_cons hk']
  rfl
theorem head_byte (s : ByteArray) (hk : 0 < s.size) : s.data.toList.head? = some s[0] := by
  have := drop_byte s hk
  rw [List.drop_zero] at this
  rw [this]; rfl
theorem ne_data {s : ByteArray} (h : 0 < s.size) : s.data.toList ≠ [] := by
  intro e
  have := len_data s
  rw [e] at this
  simp at this
  omega
theorem numP_digs {s : ByteArray} (h0 : 0 < s.size) (h9 : ¬ 9 < s.size) (h : ¬ (1 < s.size ∧ s[0].toNat = 48)) : numP s.data.toList = digs 0 s.data.toList := by
  unfold numP
  rw [if_neg]
  rintro (h1 | h1 | ⟨h1, h2⟩)
  · exact ne_data h0 h1
  · rw [len_data] at h1; exact h9 h1
  · rw [len_data] at h1
    rw [head_byte s h0] at h2
    exact h ⟨h1, by rw [Option.some.inj h2]; rfl⟩
theorem byte_cell (w : World) (s : ByteArray) {k : Nat} (hk : k < s.size) : (Lib.bytesWorld w 5 s).cell? ⟨w.heap.size, k, none⟩ = some (.int .u8 (s[k]).toNat) := by
  rw [Lib.bytesWorld_cell w _ s k hk]
  have : s.data.toList.getD k 0 = s[k] := by
    rw [List.getD_eq_getElem?_getD, List.getElem?_eq_getElem (by simpa using hk)]
    rfl
  rw [this]
theorem eq_empty {s : ByteArray} (h : ¬ 0 < s.size) : s = ⟨#[]⟩ := ByteArray.ext (Array.eq_empty_of_size_eq_zero (by have : s.data.size = s.size := rfl; omega))
theorem deci_bad (s : ByteArray) (w : World) (h : numP s.data.toList = none) (h0 : 0 < s.size) (hc : 9 < s.size ∨ (1 < s.size ∧ s[0].toNat = 48)) :
    Calls Tryd.prog 22 #[.string s] w fun e w' => e = .returned (.tuple #[.int .i64 (numQ s.data.toList).1, .bool (numQ s.data.toList).2]) ∧ Below w.heap.size w w' := by
  rw [numQ_none h]
  have hne := ne_data h0
  have t1 : s.toList.isEmpty = false := by rw [Lib.toList_data]; simpa using hne
  have t2 : (s.toList == []) = false := by rw [Lib.toList_data, beq_eq_false_iff_ne]; exact hne
  have t3 : ¬ s.toList = [] := by rw [Lib.toList_data]; exact hne
  clear hne h
  by_cases h9 : 9 < s.size
  · have g9 : (9 : Int) < (s.size : Int) := by omega
    clear hc
    go_enter Tryd.func22, Tryd.ntmps22
    go_wp2_with fail
    go_ret2
    exact ⟨rfl, Below.refl _ _⟩
  · have hc2 := hc.resolve_left h9
    have g9 : ¬ (9 : Int) < (s.size : Int) := by omega
    have g1 : (1 : Int) < (s.size : Int) := by omega
    have g0 : (0 : Int) < (s.size : Int) := by omega
    have h48 : (((s[0].toNat : Nat) : Int) == 48) = true := by rw [hc2.2]; rfl
    clear hc hc2
    go_enter Tryd.func22, Tryd.ntmps22
    go_wp2_with fail
    go_ret2
    exact ⟨rfl, Below.refl _ _⟩
theorem deci_good (s : ByteArray) (w : World) (h0 : 0 < s.size) (h9 : ¬ 9 < s.size) (hc : ¬ (1 < s.size ∧ s[0].toNat = 48)) :
    Calls Tryd.prog 22 #[.string s] w fun e w' => e = .returned (.tuple #[.int .i64 (numQ s.data.toList).1, .bool (numQ s.data.toList).2]) ∧ Below w.heap.size w w' := by
  have HL := Lib.hid (numP_digs h0 h9 hc)
  obtain ⟨V, hV⟩ : ∃ V, V = numQ s.data.toList := ⟨_, rfl⟩
  rw [← hV]
  have HV := Lib.hid hV
  clear hV
  have hne := ne_data h0
  have t1 : s.toList.isEmpty = false := by rw [Lib.toList_data]; simpa using hne
  have t2 : (s.toList == []) = false := by rw [Lib.toList_data, beq_eq_false_iff_ne]; exact hne
  have t3 : ¬ s.toList = [] := by rw [Lib.toList_data]; exact hne
  have g9 : ¬ (9 : Int) < (s.size : Int) := by omega
  have g0 : (0 : Int) < (s.size : Int) := by omega
  clear hne
  obtain ⟨w1, hw1⟩ : ∃ w1, w1 = Lib.bytesWorld w 5 s := ⟨_, rfl⟩
  obtain ⟨cap, hcap⟩ : ∃ cap, cap = grownCap w s.size 0 5 := ⟨_, rfl⟩
  have hcv := Lib.run_convert_string_bytes (P := Tryd.prog) w 9 54 5 s Tryd.underlying9 Tryd.underlying54 Tryd.underlying5
  rw [← hw1, ← hcap] at hcv
  have HB := Lib.hid (show Below w.heap.size w w1 by rw [hw1]; exact below_bytesWorld _ _ _ _ (Nat.le_refl _))
  obtain ⟨B, hB⟩ : ∃ B, B = w.heap.size := ⟨_, rfl⟩
  have HC := Lib.hid (fun (k : Nat) (hk : k < s.size) => show w1.cell? ⟨B, k, none⟩ = some (.int .u8 (s[k]).toNat) by rw [hw1, hB]; exact byte_cell w s hk)
  rw [← hB] at hcv
  have HBB := Lib.hid hB
  clear hw1 hcap hB
  have main : ∀ (hx : (1 < s.size ∧ (((s[0].toNat : Nat) : Int) == 48) = false) ∨ ¬ 1 < s.size), Calls Tryd.prog 22 #[.string s] w fun e w' => e = .returned (.tuple #[.int .i64 V.1, .bool V.2]) ∧ Below w.heap.size w w' := by
    intro hx
    rcases hx with ⟨hx1, hx2⟩ | hx1
    all_goals
      first
        | have g1 : (1 : Int) < (s.size : Int) := by omega
        | have g1 : ¬ (1 : Int) < (s.size : Int) := by omega
      clear hc hx1
      go_enter Tryd.func22, Tryd.ntmps22
      go_wp2_with fail
      clear hcv
      go_loop [27, 4] (fun i n => ∃ (k : Nat) (m : Int), k ≤ s.size ∧ i = .int .i64 k ∧ n = .int .i64 m ∧ Hid (digs 0 s.data.toList = digs m (s.data.toList.drop k)) ∧ 0 ≤ m ∧ Hid (m < ((10 ^ k : Nat) : Int))) (fun i _ => s.size - (intOf i).toNat)
      case atStart => exact ⟨0, 0, by omega, rfl, rfl, Lib.hid rfl, by omega, Lib.hid (by decide)⟩
      case round =>
        obtain ⟨k, m, hk, rfl, rfl, hd, hm0, hm1⟩ := hrel
        by_cases hlt : k < s.size
        · have hp : m < 100000000 := by
            have := hm1.out
            have : 10 ^ k ≤ 10 ^ 8 := Nat.pow_le_pow_right (by decide) (by omega)
            omega
          have HD := Lib.hid (drop_byte s hlt)
          have ck := HC.out k hlt
          have hb8 := (s[k]).toNat_lt
          by_cases hb1 : s[k].toNat < 48
          · have hbad : numQ s.data.toList = (0, false) := numQ_none (by rw [HL.out, hd.out, HD.out, digs_bad (.inl hb1)])
            have HBAD := Lib.hid (HV.out.trans hbad)
            clear hbad
            go_wp2_with fail
            go_ret2
            exact ⟨by rw [HBAD.out]; rfl, HB.out⟩
          · by_cases hb2 : 57 < s[k].toNat
            · have hbad : numQ s.data.toList = (0, false) := numQ_none (by rw [HL.out, hd.out, HD.out, digs_bad (.inr hb2)])
              have HBAD := Lib.hid (HV.out.trans hbad)
              clear hbad
              go_wp2_with fail
              go_ret2
              exact ⟨by rw [HBAD.out]; rfl, HB.out⟩
            · have HS := Lib.hid (hd.out.trans (by rw [HD.out, digs_ok (by omega) (by omega)]))
              go_wp2_with fail
              go_round
              case rel => exact ⟨k + 1, 10 * m + ((s[k].toNat : Int) - 48), by omega, by go_num, by go_num, HS, by omega, Lib.hid (by have := hm1.out; rw [Nat.pow_succ]; omega)⟩
              case measure => simp [intOf]; omega
        · have hkn : k = s.size := by omega
          subst hkn
          have hv : numQ s.data.toList = (m, true) := numQ_some (by
            rw [HL.out, hd.out]
            rw [List.drop_eq_nil_of_le (by have := len_data s; omega)]; rfl)
          have HVV := Lib.hid (HV.out.trans hv)
          clear hv
          go_wp2_with fail
          go_ret2
          exact ⟨by rw [HVV.out]; rfl, HB.out⟩
  by_cases h1 : 1 < s.size
  · exact main (.inl ⟨h1, by rw [beq_eq_false_iff_ne]; intro e; exact hc ⟨h1, by omega⟩⟩)
  · exact main (.inr h1)
theorem numQ_bad {s : ByteArray} (h0 : 0 < s.size) (hc : 9 < s.size ∨ (1 < s.size ∧ s[0].toNat = 48)) : numP s.data.toList = none := by
  unfold numP
  rw [if_pos]
  rcases hc with h | ⟨h1, h2⟩
  · exact .inr (.inl (by rw [len_data]; exact h))
  · refine .inr (.inr ⟨by rw [len_data]; exact h1, ?_⟩)
    rw [head_byte s h0]
    congr 1
    exact UInt8.toNat_inj.1 h2
theorem deci_any (s : ByteArray) (w : World) :
    Calls Tryd.prog 22 #[.string s] w fun e w' => e = .returned (.tuple #[.int .i64 (numQ s.data.toList).1, .bool (numQ s.data.toList).2]) ∧ Below w.heap.size w w' := by
  by_cases h0 : 0 < s.size
  · by_cases hc : 9 < s.size ∨ (1 < s.size ∧ s[0].toNat = 48)
    · exact deci_bad s w (numQ_bad h0 hc) h0 hc
    · exact deci_good s w h0 (fun h => hc (.inl h)) (fun h => hc (.inr h))
  · have e := eq_empty h0
    subst e
    go_enter Tryd.func22, Tryd.ntmps22
    go_wp2_with fail
    go_ret2
    exact ⟨rfl, Below.refl _ _⟩
theorem numr_any (s : ByteArray) (w : World) :
    Calls Tryd.prog 24 #[.string s] w fun e w' => e = .returned (.tuple #[.int .i64 (numQ s.data.toList).1, .bool (numQ s.data.toList).2]) ∧ w = w' := by
  by_cases h0 : 0 < s.size
  · have g0 : ¬ (s.size : Int) < 1 := by omega
    have g00 : (0 : Int) < (s.size : Int) := by omega
    by_cases h9 : 9 < s.size
    · rw [numQ_none (numQ_bad h0 (.inl h9))]
      have g9 : (9 : Int) < (s.size : Int) := by omega
      go_enter Tryd.func24, Tryd.ntmps24
      go_wp2_with fail
      go_ret2
      exact ⟨rfl, rfl⟩
    · have g9 : ¬ (9 : Int) < (s.size : Int) := by omega
      by_cases hc : 1 < s.size ∧ s[0].toNat = 48
      · rw [numQ_none (numQ_bad h0 (.inr hc))]
        have g1 : (1 : Int) < (s.size : Int) := by omega
        have h48 : (((s[0].toNat : Nat) : Int) == 48) = true := by rw [hc.2]; rfl
        clear hc
        go_enter Tryd.func24, Tryd.ntmps24
        go_wp2_with fail
        go_ret2
        exact ⟨rfl, rfl⟩
      · have HL := Lib.hid (numP_digs h0 h9 hc)
        obtain ⟨V, hV⟩ : ∃ V, V = numQ s.data.toList := ⟨_, rfl⟩
        rw [← hV]
        have HV := Lib.hid hV
        clear hV
        have main : ∀ (hx : (((s[0].toNat : Nat) : Int) == 48) = false ∨ ((((s[0].toNat : Nat) : Int) == 48) = true ∧ ¬ (1 : Int) < (s.size : Int))), Calls Tryd.prog 24 #[.string s] w fun e w' => e = .returned (.tuple #[.int .i64 V.1, .bool V.2]) ∧ w = w' := by
          intro hx
          rcases hx with hx1 | ⟨hx1, hx2⟩
          all_goals
            clear hc
            go_enter Tryd.func24, Tryd.ntmps24
            go_wp2_with fail
            go_loop [5, 4] (fun i n => ∃ (k : Nat) (m : Int), k ≤ s.size ∧ i = .int .i64 k ∧ n = .int .i64 m ∧ Hid (digs 0 s.data.toList = digs m (s.data.toList.drop k)) ∧ 0 ≤ m ∧ Hid (m < ((10 ^ k : Nat) : Int))) (fun i _ => s.size - (intOf i).toNat)
            case atStart => exact ⟨0, 0, by omega, rfl, rfl, Lib.hid rfl, by omega, Lib.hid (by decide)⟩
            case round =>
              obtain ⟨k, m, hk, rfl, rfl, hd, hm0, hm1⟩ := hrel
              by_cases hlt : k < s.size
              · have hp : m < 100000000 := by
                  have := hm1.out
                  have : 10 ^ k ≤ 10 ^ 8 := Nat.pow_le_pow_right (by decide) (by omega)
                  omega
                have HD := Lib.hid (drop_byte s hlt)
                have hb8 := (s[k]).toNat_lt
                by_cases hb1 : s[k].toNat < 48
                · have hbad : numQ s.data.toList = (0, false) := numQ_none (by rw [HL.out, hd.out, HD.out, digs_bad (.inl hb1)])
                  have HBAD := Lib.hid (HV.out.trans hbad)
                  clear hbad
                  go_wp2_with fail
                  go_ret2
                  exact ⟨by rw [HBAD.out]; rfl, rfl⟩
                · by_cases hb2 : 57 < s[k].toNat
                  · have hbad : numQ s.data.toList = (0, false) := numQ_none (by rw [HL.out, hd.out, HD.out, digs_bad (.inr hb2)])
                    have HBAD := Lib.hid (HV.out.trans hbad)
                    clear hbad
                    go_wp2_with fail
                    go_ret2
                    exact ⟨by rw [HBAD.out]; rfl, rfl⟩
                  · have HS := Lib.hid (hd.out.trans (by rw [HD.out, digs_ok (by omega) (by omega)]))
                    go_wp2_with fail
                    go_round
                    case rel => exact ⟨k + 1, 10 * m + ((s[k].toNat : Int) - 48), by omega, by go_num, by go_num, HS, by omega, Lib.hid (by have := hm1.out; rw [Nat.pow_succ]; omega)⟩
                    case measure => simp [intOf]; omega
              · have hkn : k = s.size := by omega
                subst hkn
                have hv : numQ s.data.toList = (m, true) := numQ_some (by
                  rw [HL.out, hd.out]
                  rw [List.drop_eq_nil_of_le (by have := len_data s; omega)]; rfl)
                have HVV := Lib.hid (HV.out.trans hv)
                clear hv
                go_wp2_with fail
                go_ret2
                exact ⟨by rw [HVV.out]; rfl, rfl⟩
        by_cases h48 : s[0].toNat = 48
        · exact main (.inr ⟨by rw [h48]; rfl, by have : ¬ 1 < s.size := fun h => hc ⟨h, h48⟩; omega⟩)
        · exact main (.inl (by rw [beq_eq_false_iff_ne]; omega))
  · have e := eq_empty h0
    subst e
    go_enter Tryd.func24, Tryd.ntmps24
    go_wp2_with fail
    go_ret2
    exact ⟨rfl, rfl⟩
end Go.Proofs.YtbebnbpdemdocaaDoor
