/-
  The contract of Number in the reference. Its conditions are its hypotheses.
-/
import Derived.Test.YtneiljaknmeagaaGreatDoorQb
namespace Go.Proofs.YtneiljaknmeagaaGreatDoor
open Go.RowKit Go.Joins
set_option linter.unusedVariables false
set_option linter.unusedSimpArgs false
theorem digs_bd : ∀ (l : List UInt8) (n m : Int), 0 ≤ n → digs n l = some m → 0 ≤ m ∧ m + 1 ≤ (n + 1) * 10 ^ l.length
  | [], n, m, h, e => by
    have e : n = m := Option.some.inj e
    subst e
    simp
    exact h
  | b :: r, n, m, h, e => by
    rw [digs] at e
    split at e
    · rename_i hb
      obtain ⟨c1, c2⟩ := isD_t hb
      obtain ⟨k1, k2⟩ := digs_bd r _ m (by omega) e
      refine ⟨k1, Int.le_trans k2 ?_⟩
      rw [List.length_cons, Int.pow_succ, ← Int.mul_assoc, Int.mul_comm ((n + 1) * 10 ^ r.length) 10, ← Int.mul_assoc]
      refine Int.mul_le_mul_of_nonneg_right (by omega) (Int.pow_nonneg (by decide))
    · cases e
theorem digs_snoc {l : List UInt8} {b : UInt8} {n a : Int} (h : digs n l = some a) (hb : isD b = true) : digs n (l ++ [b]) = some (10 * a + ((b.toNat : Int) - 48)) := by
  rw [digs_app l [b] n a h]
  have hb2 := hb
  simp only [isD, Bool.and_eq_true, decide_eq_true_eq] at hb2
  rw [digs_ok hb2.1 hb2.2]
  rfl
theorem pow_le18 {k : Nat} (h : k ≤ 18) : (10 : Int) ^ k ≤ 1000000000000000000 := by
  have h2 := Nat.pow_le_pow_right (n := 10) (by decide) h
  have e : ((10 ^ k : Nat) : Int) = (10 : Int) ^ k := by rw [Int.natCast_pow]; rfl
  rw [← e]
  have e2 : (10 : Nat) ^ 18 = 1000000000000000000 := by decide
  omega
theorem pow_le19 {k : Nat} (h : k ≤ 19) : (10 : Int) ^ k ≤ 10000000000000000000 := by
  have h2 := Nat.pow_le_pow_right (n := 10) (by decide) h
  have e : ((10 ^ k : Nat) : Int) = (10 : Int) ^ k := by rw [Int.natCast_pow]; rfl
  rw [← e]
  have e2 : (10 : Nat) ^ 19 = 10000000000000000000 := by decide
  omega
theorem long_big {d : List UInt8} {n m : Int} (hn : digs 0 d = some n) (hne : d ≠ []) (hc : d.head? ≠ some 48 ∨ d = [48]) (hl : 19 < d.length) (h1 : m ≤ 9223372036854775807) : m < n := by
  obtain ⟨h0, e⟩ := canon_itoa hn hne hc
  apply Int.lt_of_not_ge
  intro hm
  have hl2 := Lib.decDigits_length n.toNat
  have hl3 := nD_le 18 n.toNat (by
    have : n.toNat < 10000000000000000000 := by omega
    simpa using this)
  rw [itoa_dec h0] at e
  rw [e] at hl
  omega
theorem tail_str {l : List UInt8} (h : 1 ≤ l.length) (w' : World) : (Instr.slice 9 (.string (sB l)) (some (.int .i64 1)) none none).run Tryz.prog w' = .ok (.string (sB (l.drop 1))) w' := by
  have hz := sB_size l
  have h1 : (1 : Int) ≤ ((sB l).size : Int) := by omega
  have e : (sB l).extract 1 (sB l).size = sB (l.drop 1) := by rw [hz]; exact sB_drop l 1
  rw [← e]
  have hu : Tryz.prog.underlying 9 = some .string := Tryz.underlying9
  simp [Instr.slice, Instr.sliceBounds, Instr.sliceBound, asIntOf, run_underlying hu, h1]
theorem digit_any (b : UInt8) (w : World) :
    Calls Tryz.prog 80 #[.int .u8 b.toNat] w fun e w' => e = .returned (.bool (isD b)) ∧ w' = w := by
  have hb8 := b.toNat_lt
  cases hc : isD b with
  | true =>
    obtain ⟨c1, c2⟩ := isD_t hc
    clear hc
    go_enter Tryz.func80, Tryz.ntmps80
    go_wp2_with fail
    go_ret
    exact ⟨rfl, rfl⟩
  | false =>
    rcases isD_f hc with c1 | c1
    all_goals
      clear hc
      go_enter Tryz.func80, Tryz.ntmps80
      go_wp2_with fail
      go_ret
      first
        | exact ⟨rfl, rfl⟩
        | exact ⟨by simp [show ¬ ((b.toNat : Int) ≤ 57) by omega], rfl⟩
theorem num_nil {m : Int} {l d : List UInt8} {ng : Bool} (hd : d = dgL l) (hng : ng = ngB l) (hn : d = []) : numP m l = none := by
  cases hb : ng with
  | true => exact ng_none (hng.symm.trans hb)
  | false =>
    have hl : d = l := by
      rw [hd]
      unfold dgL
      rw [if_neg (by rw [← hng, hb]; decide)]
    rw [← hl, hn, numP_nil]
theorem num_zeros {m : Int} {l d : List UInt8} {ng : Bool} (hd : d = dgL l) (hng : ng = ngB l) (hh : d.head? = some 48) (h : 1 < d.length ∨ ng = true) : numP m l = none := by
  cases hb : ng with
  | true => exact ng_none (hng.symm.trans hb)
  | false =>
    have hl : d = l := by
      rw [hd]
      unfold dgL
      rw [if_neg (by rw [← hng, hb]; decide)]
    rw [← hl]
    exact numP_zeros hh (h.resolve_right (by rw [hb]; decide))
/-- How the digits' number stands to the one that is looked for. -/
theorem numr_ends {m : Int} {l d : List UInt8} {ng : Bool} {b0 : UInt8} {n : Int} {R : Option Int} (hR : R = numP m l) (hd : d = dgL l) (hng : ng = ngB l) (hh : d.head? = some b0) (h48 : ¬ (b0 = 48 ∧ (1 < d.length ∨ ng = true))) (hn : digs 0 d = some n) (h0 : 0 ≤ m) (h1 : m ≤ 9223372036854775807) :
    (19 < d.length → R = none) ∧ (ng = true → 1 ≤ n ∧ R = none) ∧ (ng = false → (n ≤ m ∧ R = some n) ∨ (m < n ∧ R = none)) := by
  have hne : d ≠ [] := fun e => by rw [e] at hh; cases hh
  have hc : d.head? ≠ some 48 ∨ d = [48] := by
    by_cases e : d.head? = some 48
    · right
      have e0 : b0 = 48 := by rw [e] at hh; exact (Option.some.inj hh).symm
      have hl1 : ¬ 1 < d.length := fun h => h48 ⟨e0, .inl h⟩
      cases d with
      | nil => exact absurd rfl hne
      | cons x r =>
        have hr : r = [] := List.eq_nil_of_length_eq_zero (by have : (x :: r).length = r.length + 1 := rfl; omega)
        rw [hr, Option.some.inj e]
    · exact .inl e
  have hl : ng = false → d = l := fun hb => by
    rw [hd]
    unfold dgL
    rw [if_neg (by rw [← hng, hb]; decide)]
  refine ⟨fun hlen => ?_, fun hb => ⟨?_, hR.trans (ng_none (hng.symm.trans hb))⟩, fun hb => ?_⟩
  · cases hb : ng with
    | true => exact hR.trans (ng_none (hng.symm.trans hb))
    | false =>
      have e := hl hb
      rw [hR, ← e]
      exact numP_big hn (long_big hn hne hc hlen h1)
  · exact (digs_back d n hn hne (fun e => h48 ⟨by rw [e] at hh; exact (Option.some.inj hh).symm, .inr hb⟩)).1
  · have e := hl hb
    rw [← e] at hR
    by_cases hm : n ≤ m
    · exact .inl ⟨hm, hR.trans (numP_ok hn hne hc hm)⟩
    · exact .inr ⟨by omega, hR.trans (numP_big hn (by omega))⟩
set_option maxRecDepth 100000 in
set_option maxHeartbeats 4000000 in
theorem numberr_any (m : Int) (l : List UInt8) (w : World) (hs : l.length ≤ 100000) (h0 : 0 ≤ m) (h1 : m ≤ 9223372036854775807) :
    Calls Tryz.prog 56 #[.string (sB l), .int .i64 0, .int .i64 m] w (NumQ m l w.heap.size w) := by
  obtain ⟨R, hR⟩ : ∃ R, R = numP m l := ⟨_, rfl⟩
  have HR := Lib.hid hR
  unfold NumQ
  rw [← hR]
  obtain ⟨d, hd⟩ : ∃ d, d = dgL l := ⟨_, rfl⟩
  have HD := Lib.hid hd
  have hdl : d.length ≤ 100000 := by have := dgL_len l; rw [hd]; omega
  have hz := sB_size d
  have hzl := sB_size l
  have HW0 := Lib.hid (Below.refl w.heap.size w)
  obtain ⟨ng, hng⟩ : ∃ b, b = ngB l := ⟨_, rfl⟩
  have HNG := Lib.hid hng
  -- the sign
  have hfirst : ∀ Q : Prop, ((l = [] ∧ ng = false ∧ d = l) → Q) → ((∃ b, l[0]? = some b ∧ b = 45 ∧ ng = true ∧ d = l.drop 1) → Q) → ((∃ b, l[0]? = some b ∧ b ≠ 45 ∧ ng = false ∧ d = l) → Q) → Q := by
    intro Q q1 q2 q3
    cases l with
    | nil => exact q1 ⟨rfl, hng, hd.trans rfl⟩
    | cons x r =>
      by_cases hx : x = 45
      · have hb : ngB (x :: r) = true := by rw [hx]; rfl
        refine q2 ⟨x, rfl, hx, hng.trans hb, ?_⟩
        rw [hd]
        unfold dgL
        rw [if_pos hb]
      · have hb : ngB (x :: r) = false := decide_eq_false (fun e => hx (Option.some.inj e))
        refine q3 ⟨x, rfl, hx, hng.trans hb, ?_⟩
        rw [hd]
        unfold dgL
        rw [if_neg (by rw [hb]; decide)]
  clear hR hd hng
  refine hfirst _ ?_ ?_ ?_
  · rintro ⟨rfl, rfl, rfl⟩
    have HRN : Hid (R = none) := Lib.hid (HR.out.trans numP_nil)
    clear hfirst
    go_enter Tryz.func56, Tryz.ntmps56
    go_wp2_with fail
    go_ret2
    exact ⟨⟨_, _, rfl, .inr ⟨by decide, HRN.out⟩⟩, HW0.out⟩
  · rintro ⟨b, hb, rfl, rfl, he⟩
    have hl0 : 0 < l.length := (List.getElem?_eq_some_iff.1 hb).1
    have hl0' : 0 < (sB l).size := by omega
    have hl1 : (0 : Int) < (l.length : Int) := by omega
    have iy0 := fun w' => idx_str (s := sB l) (x := 0) (j := 0) rfl hl0' w'
    rw [bt_sB hb] at iy0
    have u0 : (((45 : UInt8).toNat : Int) == 45) = true := rfl
    have ysl := fun w' => tail_str (l := l) (by omega) w'
    rw [← he] at ysl
    clear hfirst hb he
    by_cases hn : d = []
    · have HRN : Hid (R = none) := Lib.hid (HR.out.trans (num_nil HD.out HNG.out hn))
      have e2 : ((d.length : Int) == 0) = true := by rw [hn]; rfl
      clear hn
      go_enter Tryz.func56, Tryz.ntmps56
      go_wp2_with fail
      go_ret2
      exact ⟨⟨_, _, rfl, .inr ⟨by decide, HRN.out⟩⟩, HW0.out⟩
    · have hp : 0 < d.length := List.length_pos_iff.2 hn
      have e2 : ((d.length : Int) == 0) = false := by rw [beq_eq_false_iff_ne]; omega
      have hp' : 0 < (sB d).size := by omega
      have ix0 := fun w' => idx_str (s := sB d) (x := 0) (j := 0) rfl hp' w'
      obtain ⟨b0, hb0⟩ : ∃ b, d[0]? = some b := ⟨_, List.getElem?_eq_getElem hp⟩
      rw [bt_sB hb0] at ix0
      have hh : d.head? = some b0 := by rw [List.head?_eq_getElem?]; exact hb0
      have HH := Lib.hid hh
      clear hh hb0
      by_cases h48 : b0 = 48 ∧ (1 < d.length ∨ true = true)
      · obtain ⟨rfl, h49⟩ := h48
        have HRN : Hid (R = none) := Lib.hid (HR.out.trans (num_zeros HD.out HNG.out HH.out h49))
        have t0 : (((48 : UInt8).toNat : Int) == 48) = true := rfl
        by_cases h1l : 1 < d.length
        · have h1l' : (1 : Int) < ((sB d).size : Int) := by omega
          have h1l2 : (1 : Int) < (d.length : Int) := by omega
          clear h49
          go_enter Tryz.func56, Tryz.ntmps56
          go_wp2_with fail
          go_ret2
          exact ⟨⟨_, _, rfl, .inr ⟨by decide, HRN.out⟩⟩, HW0.out⟩
        · have h1l' : ¬ (1 : Int) < ((sB d).size : Int) := by omega
          have h1l2 : ¬ (1 : Int) < (d.length : Int) := by omega
          clear h49
          go_enter Tryz.func56, Tryz.ntmps56
          go_wp2_with fail
          go_ret2
          exact ⟨⟨_, _, rfl, .inr ⟨by decide, HRN.out⟩⟩, HW0.out⟩
      · have H48 := Lib.hid h48
        have t1 : ((b0.toNat : Int) == 48) = false := by
          rw [beq_eq_false_iff_ne]
          intro e
          exact h48 ⟨UInt8.toNat_inj.1 (by simp; omega), .inr rfl⟩
        clear h48
        go_enter Tryz.func56, Tryz.ntmps56
        all_goals
          go_wp2_with fail
          go_loopw [10] (fun i wr => ∃ k : Nat, k ≤ d.length ∧ i = .int .i64 k ∧ Hid (∀ j b, j < k → d[j]? = some b → isD b = true) ∧ wr = w) (fun i _ => d.length - (intOf i).toNat)
          case atStart => exact ⟨0, by omega, rfl, Lib.hid (fun j b hj _ => by omega), rfl⟩
          case round =>
            obtain ⟨k, hk, rfl, HK, rfl⟩ := hrel
            by_cases hlt : k < d.length
            · have hlt2 : (k : Int) < (d.length : Int) := by omega
              have hlt3 : k < (sB d).size := by omega
              obtain ⟨b, hb⟩ : ∃ b, d[k]? = some b := ⟨_, List.getElem?_eq_getElem hlt⟩
              have ix := fun w' => idx_str (s := sB d) (x := (k : Int)) (j := k) rfl hlt3 w'
              rw [bt_sB hb] at ix
              have HBK := Lib.hid hb
              have HDG := Lib.hid (fun W => digit_any b W)
              have hb8 := b.toNat_lt
              cases hc : isD b with
              | true =>
                rw [hc] at HDG
                have HC := Lib.hid hc
                clear hb hc
                go_wp2_with fail
                refine (HDG.out _).mono ?_
                rintro e w2 ⟨rfl, rfl⟩
                go_wp2_with fail
                go_roundw
                case rel => exact ⟨k + 1, by omega, by go_num, Lib.hid (fun j y hj hy => by
                  by_cases hjk : j < k
                  · exact HK.out j y hjk hy
                  · obtain rfl : j = k := by omega
                    rw [HBK.out] at hy
                    cases hy
                    exact HC.out), by trivial⟩
                case measure => simp [intOf]; omega
              | false =>
                rw [hc] at HDG
                have HRN : Hid (R = none) := Lib.hid (HR.out.trans (numP_bad (dgL_sub (HD.out ▸ List.mem_of_getElem? hb)) hc))
                clear hb hc
                go_wp2_with fail
                refine (HDG.out _).mono ?_
                rintro e w2 ⟨rfl, rfl⟩
                go_wp2_with fail
                go_ret2
                exact ⟨⟨_, _, rfl, .inr ⟨by decide, HRN.out⟩⟩, HW0.out⟩
            · obtain rfl : k = d.length := by omega
              have HALL := Lib.hid (show ∀ b ∈ d, isD b = true from fun b hb => by
                obtain ⟨j, hj, e⟩ := List.mem_iff_getElem.1 hb
                exact HK.out j b hj (by rw [List.getElem?_eq_getElem hj, e]))
              obtain ⟨n, hn0⟩ := digs_all d 0 HALL.out
              have HN := Lib.hid hn0
              have HEN := Lib.hid (numr_ends (m := m) (by rw [← HR.out]) HD.out HNG.out HH.out (by simpa using H48.out) hn0 h0 h1)
              clear hlt hn0 hn
              by_cases hlong : 19 < d.length
              · have hlong2 : (19 : Int) < (d.length : Int) := by omega
                have HRN := Lib.hid (HEN.out.1 hlong)
                go_wp2_with fail
                go_ret2
                exact ⟨⟨_, _, rfl, .inr ⟨by decide, HRN.out⟩⟩, HW0.out⟩
              · have hlong2 : ¬ (19 : Int) < (d.length : Int) := by omega
                go_wp2_with fail
                go_loopw [11, 12] (fun nv iv wq => ∃ (k : Nat) (a : Int), k ≤ d.length ∧ iv = .int .i64 k ∧ nv = .int .u64 a ∧ 0 ≤ a ∧ Hid (digs 0 (d.take k) = some a) ∧ wq = wr) (fun _ i _ => d.length - (intOf i).toNat)
                case atStart => exact ⟨0, 0, by omega, rfl, rfl, by omega, Lib.hid rfl, rfl⟩
                case round =>
                  obtain ⟨k, a, hk, rfl, rfl, ha0, HA, rfl⟩ := hrel
                  by_cases hlt : k < d.length
                  · have hlt2 : (k : Int) < (d.length : Int) := by omega
                    have hlt3 : k < (sB d).size := by omega
                    obtain ⟨b, hb⟩ : ∃ b, d[k]? = some b := ⟨_, List.getElem?_eq_getElem hlt⟩
                    have ix := fun w' => idx_str (s := sB d) (x := (k : Int)) (j := k) rfl hlt3 w'
                    rw [bt_sB hb] at ix
                    have hbD := HALL.out b (List.mem_of_getElem? hb)
                    obtain ⟨c1, c2⟩ := isD_t hbD
                    have hbd := (digs_bd _ 0 a (by decide) HA.out).2
                    have hp18 := pow_le18 (show (d.take k).length ≤ 18 by rw [List.length_take]; omega)
                    have ha1 : a ≤ 999999999999999999 := by omega
                    have HS := Lib.hid (show digs 0 (d.take (k + 1)) = some (10 * a + ((b.toNat : Int) - 48)) by
                      rw [List.take_add_one, hb]
                      exact digs_snoc HA.out hbD)
                    have hb8 := b.toNat_lt
                    clear hb hbD hbd hp18
                    generalize (b.toNat : Int) = bn at *
                    go_wp2_with fail
                    go_roundw
                    case rel => exact ⟨k + 1, _, by omega, by go_num, by go_num, by omega, HS, by trivial⟩
                    case measure => simp [intOf]; omega
                  · obtain rfl : k = d.length := by omega
                    have hAn : a = n := by
                      have h := HA.out
                      rw [List.take_length, HN.out] at h
                      exact (Option.some.inj h).symm
                    have hbd := (digs_bd _ 0 a (by decide) HA.out).2
                    have ha1 : a ≤ 9999999999999999999 := by
                      have hp19 := pow_le19 (show (d.take d.length).length ≤ 19 by rw [List.length_take]; omega)
                      omega
                    clear hbd hlt
                    subst hAn
                    obtain ⟨hn1, hRn⟩ := HEN.out.2.1 (by trivial)
                    have hwr : wrap64 (-wrap64 9223372036854775808) < 0 := of_decide_eq_true (by kernel_rfl)
                    have HRN := Lib.hid hRn
                    clear hRn
                    rcases (show 9223372036854775808 < a ∨ a = 9223372036854775808 ∨ (a < 9223372036854775808 ∧ 1 ≤ a) by omega) with hc | rfl | ⟨hc, hc1⟩
                    all_goals
                      go_wp2_with fail
                      go_ret2
                      exact ⟨⟨_, _, rfl, .inr ⟨by decide, HRN.out⟩⟩, HW0.out⟩
  · rintro ⟨b0, hb0, hne, rfl, rfl⟩
    have hp : 0 < d.length := (List.getElem?_eq_some_iff.1 hb0).1
    have hp' : 0 < (sB d).size := by omega
    have hl1 : (0 : Int) < (d.length : Int) := by omega
    have ix0 := fun w' => idx_str (s := sB d) (x := 0) (j := 0) rfl hp' w'
    rw [bt_sB hb0] at ix0
    have u0 : ((b0.toNat : Int) == 45) = false := by
      rw [beq_eq_false_iff_ne]
      intro e
      exact hne (UInt8.toNat_inj.1 (by simp; omega))
    have hn : d ≠ [] := List.length_pos_iff.1 hp
    have e2 : ((d.length : Int) == 0) = false := by rw [beq_eq_false_iff_ne]; omega
    clear hfirst hne
    have True_ : True := trivial
    · clear True_
      have hh : d.head? = some b0 := by rw [List.head?_eq_getElem?]; exact hb0
      have HH := Lib.hid hh
      clear hh hb0
      by_cases h48 : b0 = 48 ∧ (1 < d.length ∨ false = true)
      · obtain ⟨rfl, h49⟩ := h48
        have HRN : Hid (R = none) := Lib.hid (HR.out.trans (num_zeros HD.out HNG.out HH.out h49))
        have t0 : (((48 : UInt8).toNat : Int) == 48) = true := rfl
        by_cases h1l : 1 < d.length
        · have h1l' : (1 : Int) < ((sB d).size : Int) := by omega
          have h1l2 : (1 : Int) < (d.length : Int) := by omega
          clear h49
          go_enter Tryz.func56, Tryz.ntmps56
          go_wp2_with fail
          go_ret2
          exact ⟨⟨_, _, rfl, .inr ⟨by decide, HRN.out⟩⟩, HW0.out⟩
        · exact absurd (h49.resolve_left h1l) (by decide)
      · have H48 := Lib.hid h48
        have hcs : ((b0.toNat : Int) == 48) = false ∨ (((b0.toNat : Int) == 48) = true ∧ ¬ (1 : Int) < (d.length : Int)) := by
          by_cases h : b0 = 48
          · refine .inr ⟨by rw [h]; rfl, fun hh => h48 ⟨h, .inl (by omega)⟩⟩
          · left
            rw [beq_eq_false_iff_ne]
            intro e
            exact h (UInt8.toNat_inj.1 (by simp; omega))
        clear h48
        go_enter Tryz.func56, Tryz.ntmps56
        rcases hcs with t1 | ⟨t1, t2⟩
        all_goals
          go_wp2_with fail
          go_loopw [10] (fun i wr => ∃ k : Nat, k ≤ d.length ∧ i = .int .i64 k ∧ Hid (∀ j b, j < k → d[j]? = some b → isD b = true) ∧ wr = w) (fun i _ => d.length - (intOf i).toNat)
          case atStart => exact ⟨0, by omega, rfl, Lib.hid (fun j b hj _ => by omega), rfl⟩
          case round =>
            obtain ⟨k, hk, rfl, HK, rfl⟩ := hrel
            by_cases hlt : k < d.length
            · have hlt2 : (k : Int) < (d.length : Int) := by omega
              have hlt3 : k < (sB d).size := by omega
              obtain ⟨b, hb⟩ : ∃ b, d[k]? = some b := ⟨_, List.getElem?_eq_getElem hlt⟩
              have ix := fun w' => idx_str (s := sB d) (x := (k : Int)) (j := k) rfl hlt3 w'
              rw [bt_sB hb] at ix
              have HBK := Lib.hid hb
              have HDG := Lib.hid (fun W => digit_any b W)
              have hb8 := b.toNat_lt
              cases hc : isD b with
              | true =>
                rw [hc] at HDG
                have HC := Lib.hid hc
                clear hb hc
                go_wp2_with fail
                refine (HDG.out _).mono ?_
                rintro e w2 ⟨rfl, rfl⟩
                go_wp2_with fail
                go_roundw
                case rel => exact ⟨k + 1, by omega, by go_num, Lib.hid (fun j y hj hy => by
                  by_cases hjk : j < k
                  · exact HK.out j y hjk hy
                  · obtain rfl : j = k := by omega
                    rw [HBK.out] at hy
                    cases hy
                    exact HC.out), by trivial⟩
                case measure => simp [intOf]; omega
              | false =>
                rw [hc] at HDG
                have HRN : Hid (R = none) := Lib.hid (HR.out.trans (numP_bad (dgL_sub (HD.out ▸ List.mem_of_getElem? hb)) hc))
                clear hb hc
                go_wp2_with fail
                refine (HDG.out _).mono ?_
                rintro e w2 ⟨rfl, rfl⟩
                go_wp2_with fail
                go_ret2
                exact ⟨⟨_, _, rfl, .inr ⟨by decide, HRN.out⟩⟩, HW0.out⟩
            · obtain rfl : k = d.length := by omega
              have HALL := Lib.hid (show ∀ b ∈ d, isD b = true from fun b hb => by
                obtain ⟨j, hj, e⟩ := List.mem_iff_getElem.1 hb
                exact HK.out j b hj (by rw [List.getElem?_eq_getElem hj, e]))
              obtain ⟨n, hn0⟩ := digs_all d 0 HALL.out
              have HN := Lib.hid hn0
              have HEN := Lib.hid (numr_ends (m := m) (by rw [← HR.out]) HD.out HNG.out HH.out (by simpa using H48.out) hn0 h0 h1)
              clear hlt hn0 hn
              by_cases hlong : 19 < d.length
              · have hlong2 : (19 : Int) < (d.length : Int) := by omega
                have HRN := Lib.hid (HEN.out.1 hlong)
                go_wp2_with fail
                go_ret2
                exact ⟨⟨_, _, rfl, .inr ⟨by decide, HRN.out⟩⟩, HW0.out⟩
              · have hlong2 : ¬ (19 : Int) < (d.length : Int) := by omega
                go_wp2_with fail
                go_loopw [11, 12] (fun nv iv wq => ∃ (k : Nat) (a : Int), k ≤ d.length ∧ iv = .int .i64 k ∧ nv = .int .u64 a ∧ 0 ≤ a ∧ Hid (digs 0 (d.take k) = some a) ∧ wq = wr) (fun _ i _ => d.length - (intOf i).toNat)
                case atStart => exact ⟨0, 0, by omega, rfl, rfl, by omega, Lib.hid rfl, rfl⟩
                case round =>
                  obtain ⟨k, a, hk, rfl, rfl, ha0, HA, rfl⟩ := hrel
                  by_cases hlt : k < d.length
                  · have hlt2 : (k : Int) < (d.length : Int) := by omega
                    have hlt3 : k < (sB d).size := by omega
                    obtain ⟨b, hb⟩ : ∃ b, d[k]? = some b := ⟨_, List.getElem?_eq_getElem hlt⟩
                    have ix := fun w' => idx_str (s := sB d) (x := (k : Int)) (j := k) rfl hlt3 w'
                    rw [bt_sB hb] at ix
                    have hbD := HALL.out b (List.mem_of_getElem? hb)
                    obtain ⟨c1, c2⟩ := isD_t hbD
                    have hbd := (digs_bd _ 0 a (by decide) HA.out).2
                    have hp18 := pow_le18 (show (d.take k).length ≤ 18 by rw [List.length_take]; omega)
                    have ha1 : a ≤ 999999999999999999 := by omega
                    have HS := Lib.hid (show digs 0 (d.take (k + 1)) = some (10 * a + ((b.toNat : Int) - 48)) by
                      rw [List.take_add_one, hb]
                      exact digs_snoc HA.out hbD)
                    have hb8 := b.toNat_lt
                    clear hb hbD hbd hp18
                    generalize (b.toNat : Int) = bn at *
                    go_wp2_with fail
                    go_roundw
                    case rel => exact ⟨k + 1, _, by omega, by go_num, by go_num, by omega, HS, by trivial⟩
                    case measure => simp [intOf]; omega
                  · obtain rfl : k = d.length := by omega
                    have hAn : a = n := by
                      have h := HA.out
                      rw [List.take_length, HN.out] at h
                      exact (Option.some.inj h).symm
                    have hbd := (digs_bd _ 0 a (by decide) HA.out).2
                    have ha1 : a ≤ 9999999999999999999 := by
                      have hp19 := pow_le19 (show (d.take d.length).length ≤ 19 by rw [List.length_take]; omega)
                      omega
                    clear hbd hlt
                    subst hAn
                    rcases (show 9223372036854775808 < a ∨ a = 9223372036854775808 ∨ a < 9223372036854775808 by omega) with hc | hce | hc
                    · have HRN : Hid (R = none) := Lib.hid (by
                        rcases HEN.out.2.2 (by trivial) with ⟨h, _⟩ | ⟨_, h⟩
                        · omega
                        · exact h)
                      go_wp2_with fail
                      go_ret2
                      exact ⟨⟨_, _, rfl, .inr ⟨by decide, HRN.out⟩⟩, HW0.out⟩
                    · have HRN : Hid (R = none) := Lib.hid (by
                        rcases HEN.out.2.2 (by trivial) with ⟨h, _⟩ | ⟨_, h⟩
                        · omega
                        · exact h)
                      have hc1 : (a == 9223372036854775808) = true := by rw [beq_iff_eq]; exact hce
                      have hc2 : ¬ 9223372036854775808 < a := by omega
                      clear hce
                      go_wp2_with fail
                      go_ret2
                      exact ⟨⟨_, _, rfl, .inr ⟨by decide, HRN.out⟩⟩, HW0.out⟩
                    · have hc1 : (a == 9223372036854775808) = false := by rw [beq_eq_false_iff_ne]; omega
                      rcases HEN.out.2.2 (by trivial) with ⟨hm, hRn⟩ | ⟨hm, hRn⟩
                      all_goals
                        have HRN := Lib.hid hRn
                        clear hRn
                        go_wp2_with fail
                        go_ret2
                        first
                          | exact ⟨⟨_, _, rfl, .inr ⟨by decide, HRN.out⟩⟩, HW0.out⟩
                          | exact ⟨⟨_, _, rfl, .inl ⟨rfl, HRN.out⟩⟩, HW0.out⟩
end Go.Proofs.YtneiljaknmeagaaGreatDoor
