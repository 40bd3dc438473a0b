/-
  The contract of Name in the reference. Its conditions are its hypotheses.
-/
import Derived.Test.YtneiljaknmeagaaGreatDoorQc
import Derived.Test.YtneiljaknmeagaaGreatDoorBd
namespace Go.Proofs.YtneiljaknmeagaaGreatDoor
open Go.RowKit Go.Joins
set_option linter.unusedVariables false
set_option linter.unusedSimpArgs false
theorem nm_long {l : List UInt8} (h : 16 < l.length) : nmB l = false := by
  cases l with
  | nil => rfl
  | cons x r =>
    unfold nmB nmH
    have e : ¬ (x :: r).length ≤ 16 := by omega
    rw [decide_eq_false e]
    rfl
theorem nm_nil {l : List UInt8} (h : l.length < 1) : nmB l = false := by
  rw [List.eq_nil_of_length_eq_zero (l := l) (by omega)]
  rfl
theorem nm_head {l : List UInt8} {b : UInt8} (h : l[0]? = some b) (hb : b.toNat < 65 ∨ 90 < b.toNat) : nmB l = false := by
  cases l with
  | nil => cases h
  | cons x r =>
    have e : x = b := Option.some.inj h
    subst e
    unfold nmB nmH
    rcases hb with hb | hb
    · have e : ¬ 65 ≤ x.toNat := by omega
      simp [e]
    · have e : ¬ x.toNat ≤ 90 := by omega
      simp [e]
theorem nm_bad {l : List UInt8} {b : UInt8} (h : b ∈ l) (hb : nmC b = false) : nmB l = false := by
  unfold nmB
  have e : l.all nmC = false := by
    rw [List.all_eq_false]
    exact ⟨b, h, by rw [hb]; decide⟩
  rw [e, Bool.and_false]
theorem nm_good {l : List UInt8} {b : UInt8} (h0 : l[0]? = some b) (hb : 65 ≤ b.toNat ∧ b.toNat ≤ 90) (hl : l.length ≤ 16) (ha : l.all nmC = true) : nmB l = true := by
  cases l with
  | nil => cases h0
  | cons x r =>
    have e : x = b := Option.some.inj h0
    subst e
    unfold nmB nmH
    rw [ha]
    simp [hb.1, hb.2]
    simpa using hl
set_option maxHeartbeats 1000000 in
theorem namer_any (l : List UInt8) (w : World) :
    Calls Tryz.prog 57 #[.string (sB l)] w fun e w' => e = .returned (.bool (nmB l)) ∧ w' = w := by
  have hz := sB_size l
  obtain ⟨R, hR⟩ : ∃ R, R = nmB l := ⟨_, rfl⟩
  have HR := Lib.hid hR
  rw [← hR]
  clear hR
  by_cases h1 : l.length < 1
  · have g0 : ((sB l).size : Int) < 1 := by omega
    have HF := Lib.hid (show R = false from HR.out.trans (nm_nil h1))
    clear h1
    go_enter Tryz.func57, Tryz.ntmps57
    go_wp2_with fail
    go_ret
    exact ⟨by rw [HF.out]; rfl, rfl⟩
  · by_cases h16 : 16 < l.length
    · have g0 : ¬ ((sB l).size : Int) < 1 := by omega
      have g1 : (16 : Int) < ((sB l).size : Int) := by omega
      have HF := Lib.hid (show R = false from HR.out.trans (nm_long h16))
      clear h1 h16
      go_enter Tryz.func57, Tryz.ntmps57
      go_wp2_with fail
      go_ret
      exact ⟨by rw [HF.out]; rfl, rfl⟩
    · have g0 : ¬ ((sB l).size : Int) < 1 := by omega
      have g1 : ¬ (16 : Int) < ((sB l).size : Int) := by omega
      go_enter Tryz.func57, Tryz.ntmps57
      go_wp2_with fail
      go_loop [3] (fun i => ∃ k : Nat, k ≤ l.length ∧ i = .int .i64 k ∧ Hid ((l.take k).all nmC = true) ∧ Hid (0 < k → ∃ b, l[0]? = some b ∧ 65 ≤ b.toNat ∧ b.toNat ≤ 90)) (fun i => l.length - (intOf i).toNat)
      case atStart => exact ⟨0, by omega, rfl, Lib.hid (by simp), Lib.hid (fun h => by omega)⟩
      case round =>
        obtain ⟨k, hk, rfl, HA, HH⟩ := hrel
        by_cases hlt : k < l.length
        · have hlt2 : (k : Int) < ((sB l).size : Int) := by omega
          have hlt3 : k < (sB l).size := by omega
          obtain ⟨b, hb⟩ : ∃ b, l[k]? = some b := ⟨_, List.getElem?_eq_getElem hlt⟩
          have ix := fun w' => idx_str (s := sB l) (x := (k : Int)) (j := k) rfl hlt3 w'
          rw [bt_sB hb] at ix
          have HBK := Lib.hid hb
          have HDG := Lib.hid (fun W => digit_any b W)
          have HC := Lib.hid (nmC_iff b)
          have hb8 := b.toNat_lt
          by_cases hlet : 65 ≤ b.toNat ∧ b.toNat ≤ 90
          · obtain ⟨c1, c2⟩ := hlet
            have c1' : (65 : Int) ≤ (b.toNat : Int) := by omega
            have c2' : (b.toNat : Int) ≤ 90 := by omega
            have HS := Lib.hid (show (l.take (k + 1)).all nmC = true by rw [all_take_succ hb, HA.out, HC.out.2 (by omega)]; rfl)
            have HH2 := Lib.hid (show 0 < k + 1 → ∃ b, l[0]? = some b ∧ 65 ≤ b.toNat ∧ b.toNat ≤ 90 from fun _ => by
              by_cases h0 : 0 < k
              · exact HH.out h0
              · obtain rfl : k = 0 := by omega
                exact ⟨b, hb, c1, c2⟩)
            clear hb c1 c2
            go_wp2_with fail
            go_round
            case rel => exact ⟨k + 1, by omega, by go_num, HS, HH2⟩
            case measure => simp [intOf]; omega
          · by_cases h0 : k = 0
            · have HF := Lib.hid (show R = false from HR.out.trans (nm_head (by rw [← h0]; exact hb) (by omega)))
              have t0 : ((k : Int) == 0) = true := by rw [h0]; rfl
              rcases (show b.toNat < 65 ∨ 90 < b.toNat by omega) with c1 | c1
              · have c1' : (b.toNat : Int) < 65 := by omega
                clear hb h0 hlet c1
                go_wp2_with fail
                go_ret
                exact ⟨by rw [HF.out]; rfl, rfl⟩
              · have c1' : (90 : Int) < (b.toNat : Int) := by omega
                have c2' : decide ((b.toNat : Int) ≤ 90) = false := by simp; omega
                clear hb h0 hlet c1
                go_wp2_with fail
                go_ret
                exact ⟨by rw [HF.out]; rfl, rfl⟩
            · have t0 : ((k : Int) == 0) = false := by rw [beq_eq_false_iff_ne]; omega
              have HH2 := Lib.hid (show 0 < k + 1 → ∃ b, l[0]? = some b ∧ 65 ≤ b.toNat ∧ b.toNat ≤ 90 from fun _ => HH.out (by omega))
              have HL := Lib.hid hlet
              rcases (show ((48 ≤ b.toNat ∧ b.toNat ≤ 57) ∨ b.toNat = 95 ∨ b.toNat = 45) ∨ (¬ (48 ≤ b.toNat ∧ b.toNat ≤ 57) ∧ b.toNat ≠ 95 ∧ b.toNat ≠ 45) by omega) with hg | hg
              · have HS := Lib.hid (show (l.take (k + 1)).all nmC = true by rw [all_take_succ hb, HA.out, HC.out.2 (by omega)]; rfl)
                have hD : isD b = true ∨ (isD b = false ∧ ((b.toNat : Int) != 95) = false) ∨ (isD b = false ∧ ((b.toNat : Int) != 95) = true ∧ ((b.toNat : Int) != 45) = false) := by
                  cases hc : isD b with
                  | true => exact .inl rfl
                  | false =>
                    have := isD_f hc
                    right
                    rcases (show b.toNat = 95 ∨ b.toNat = 45 by omega) with h | h
                    · exact .inl ⟨rfl, by rw [h]; rfl⟩
                    · exact .inr ⟨rfl, by rw [h]; rfl, by rw [h]; rfl⟩
                rcases (show b.toNat < 65 ∨ 90 < b.toNat by omega) with c1 | c1
                all_goals
                  first
                    | have c1' : (b.toNat : Int) < 65 := by omega
                    | (have c1' : (90 : Int) < (b.toNat : Int) := by omega
                       have c2' : decide ((b.toNat : Int) ≤ 90) = false := by simp; omega)
                  clear hb hlet hg c1 h0
                  rcases hD with hc | ⟨hc, t1⟩ | ⟨hc, t1, t2⟩
                  all_goals
                    rw [hc] at HDG
                    clear hc
                    go_wp2_with fail
                    refine (HDG.out _).mono ?_
                    rintro e w2 ⟨rfl, rfl⟩
                    go_wp2_with fail
                    go_round
                    case rel => exact ⟨k + 1, by omega, by go_num, HS, HH2⟩
                    case measure => simp [intOf]; omega
              · have HF := Lib.hid (show R = false from HR.out.trans (nm_bad (List.mem_of_getElem? hb) (by
                  cases hx : nmC b with
                  | false => rfl
                  | true => have := HC.out.1 hx; omega)))
                have hc : isD b = false := by
                  cases hx : isD b with
                  | false => rfl
                  | true => have := isD_t hx; omega
                have t1 : ((b.toNat : Int) != 95) = true := by simp; omega
                have t2 : ((b.toNat : Int) != 45) = true := by simp; omega
                rw [hc] at HDG
                rcases (show b.toNat < 65 ∨ 90 < b.toNat by omega) with c1 | c1
                all_goals
                  first
                    | have c1' : (b.toNat : Int) < 65 := by omega
                    | (have c1' : (90 : Int) < (b.toNat : Int) := by omega
                       have c2' : decide ((b.toNat : Int) ≤ 90) = false := by simp; omega)
                  clear hb hlet hg c1 h0 hc
                  go_wp2_with fail
                  refine (HDG.out _).mono ?_
                  rintro e w2 ⟨rfl, rfl⟩
                  go_wp2_with fail
                  go_ret
                  exact ⟨by rw [HF.out]; rfl, rfl⟩
        · obtain rfl : k = l.length := by omega
          have HE := Lib.hid (show R = true by
            obtain ⟨b, hb0, hb1⟩ := HH.out (by omega)
            have := HA.out
            rw [List.take_length] at this
            exact HR.out.trans (nm_good hb0 hb1 (by omega) this))
          clear hlt
          go_wp2_with fail
          go_ret
          exact ⟨by rw [HE.out]; rfl, rfl⟩
end Go.Proofs.YtneiljaknmeagaaGreatDoor
