/-
  The contract of math/bits.Div64 at a divisor below 2 ^ 32. Its conditions are its hypotheses.
-/
import Derived.Test.YtdccjkbhmpfcmaaDoorR3
import Derived.Test.YtdccjkbhmpfcmaaDoorShelf
import Derived.Test.YtdccjkbhmpfcmaaDoorShelg
import Derived.Lib.ItoaNum
import Derived.Lib.EndianBits
namespace Go.Proofs.YtdccjkbhmpfcmaaDoor
open Go.RowKit
set_option linter.unusedVariables false
set_option linter.unusedSimpArgs false
theorem knuth0 {V d t Q W : Nat} (ht : 0 < t) (e1 : V * t = Q * d * t + W) (hW : W < d * t) : V / d = Q ∧ V % d = W / t := by
  have hd : t ∣ W := by
    have h1 : t ∣ V * t := Nat.dvd_mul_left _ _
    rw [e1] at h1
    exact (Nat.dvd_add_right (Nat.dvd_mul_left _ _)).1 h1
  obtain ⟨X, rfl⟩ := hd
  rw [Nat.mul_comm t X, ← Nat.add_mul] at e1
  have hV := Nat.eq_of_mul_eq_mul_right ht e1
  have hX : X < d := by
    rw [Nat.mul_comm t X] at hW
    exact Nat.lt_of_mul_lt_mul_right hW
  rw [Nat.mul_div_cancel_left _ ht, hV]
  have hd0 : 0 < d := by omega
  constructor
  · rw [Nat.mul_comm, Nat.mul_add_div hd0, Nat.div_eq_of_lt hX]; omega
  · rw [Nat.mul_comm, Nat.mul_add_mod, Nat.mod_eq_of_lt hX]
theorem knuth {V d T U32 U10 U1 U0 Q1 R1 U21 Q0 R0 : Nat} (hT : 0 < T)
    (hU : V * (T * 4294967296) = U32 * 18446744073709551616 + U10) (h10 : U10 = U1 * 4294967296 + U0) (h0 : U0 < 4294967296)
    (hq1 : U32 = Q1 * (d * T) + R1) (h21 : U21 = R1 * 4294967296 + U1) (hq0 : U21 = Q0 * (d * T) + R0) (hr0 : R0 < d * T) :
    V / d = Q1 * 4294967296 + Q0 ∧ V % d = (R0 * 4294967296 + U0) / (T * 4294967296) := by
  refine knuth0 (by omega) ?_ ?_
  · rw [hU, h10]
    have a1 : (Q1 * 4294967296 + Q0) * d * (T * 4294967296) = Q1 * (d * T) * 18446744073709551616 + Q0 * (d * T) * 4294967296 := by
      have b1 : (Q1 * 4294967296 + Q0) * d * (T * 4294967296) = (Q1 * 4294967296 + Q0) * (d * T) * 4294967296 := by
        simp only [Nat.mul_assoc]
      rw [b1, Nat.add_mul, Nat.mul_right_comm Q1 4294967296 (d * T), Nat.add_mul, Nat.mul_assoc (Q1 * (d * T))]
    rw [a1]
    revert hq1 hq0
    obtain ⟨A, hA⟩ : ∃ A, A = Q1 * (d * T) := ⟨_, rfl⟩
    obtain ⟨B, hB⟩ : ∃ B, B = Q0 * (d * T) := ⟨_, rfl⟩
    rw [← hA, ← hB]
    intro hq1 hq0
    omega
  · rw [← Nat.mul_assoc]
    omega
theorem len_bd {d : Nat} (h1 : 1 ≤ d) (h3 : d ≤ 4294967295) : 1 ≤ Lib.bitLen d ∧ Lib.bitLen d ≤ 32 ∧ d < 2 ^ Lib.bitLen d := by
  obtain ⟨a, b, c⟩ := Lib.bitLenAux_bounds 64 d (by omega) (by omega)
  have e : Lib.bitLen d = Lib.bitLenAux 64 d := rfl
  rw [← e] at a b c
  refine ⟨a, ?_, c⟩
  apply Classical.byContradiction
  intro hc
  have : 2 ^ 32 ≤ 2 ^ (Lib.bitLen d - 1) := Nat.pow_le_pow_right (by decide) (by omega)
  omega
set_option maxRecDepth 4000 in
set_option maxHeartbeats 2000000 in
theorem div64_any (hi lo d : Nat) (w : World) (h1 : 1 ≤ hi) (h2 : hi < d) (h3 : d ≤ 4294967295) (h4 : lo < 18446744073709551616) (V : Nat) (hV : V = hi * 18446744073709551616 + lo) :
    Calls Tryd.prog 55 #[.int .u64 hi, .int .u64 lo, .int .u64 d] w fun e w' => e = .returned (.tuple #[.int .u64 ((V / d : Nat) : Int), .int .u64 ((V % d : Nat) : Int)]) ∧ w' = w := by
  obtain ⟨l1, l2, l3⟩ := len_bd (d := d) (by omega) h3
  obtain ⟨s, hs⟩ : ∃ s : Nat, s = 64 - Lib.bitLen d := ⟨_, rfl⟩
  have s1 : 32 ≤ s := by omega
  have s2 : s ≤ 63 := by omega
  obtain ⟨T, hT⟩ : ∃ T : Nat, T = 2 ^ (s - 32) := ⟨_, rfl⟩
  have hT0 : 0 < T := by rw [hT]; exact Nat.pow_pos (by decide)
  have hpow : 2 ^ s = T * 4294967296 := by
    rw [hT, show (4294967296 : Nat) = 2 ^ 32 from rfl, ← Nat.pow_add, show s - 32 + 32 = s by omega]
  have hlen : 2 ^ Lib.bitLen d * 2 ^ s = 18446744073709551616 := by
    rw [← Nat.pow_add, show Lib.bitLen d + s = 64 by omega]
  have hcop : 2 ^ (64 - s) * 2 ^ s = 18446744073709551616 := by
    rw [← Nat.pow_add, show 64 - s + s = 64 by omega]
  obtain ⟨Y1, hY1⟩ : ∃ Y1, Y1 = d * T := ⟨_, rfl⟩
  have hdt : d * 2 ^ s = Y1 * 4294967296 := by rw [hpow, ← Nat.mul_assoc, hY1]
  have hY64 : Y1 * 4294967296 < 18446744073709551616 := by
    rw [← hdt, ← hlen]
    exact Nat.mul_lt_mul_of_pos_right l3 (Nat.pow_pos (by decide))
  have hY0 : 0 < Y1 := by rw [hY1]; exact Nat.mul_pos (by omega) hT0
  obtain ⟨Hs, hHs⟩ : ∃ Hs, Hs = hi * 2 ^ s := ⟨_, rfl⟩
  have hHY : Hs + 2 ^ s ≤ Y1 * 4294967296 := by
    rw [hHs, ← hdt]
    have := Nat.mul_le_mul_right (2 ^ s) (show hi + 1 ≤ d by omega)
    rw [Nat.add_mul, Nat.one_mul] at this
    exact this
  obtain ⟨L, hL⟩ : ∃ L, L = lo / 2 ^ (64 - s) := ⟨_, rfl⟩
  have hLlt : L < 2 ^ s := by
    rw [hL]
    exact Nat.div_lt_of_lt_mul (by rw [hcop]; exact h4)
  obtain ⟨U10, hU10⟩ : ∃ U10, U10 = lo * 2 ^ s % 18446744073709551616 := ⟨_, rfl⟩
  have hlo : lo * 2 ^ s = L * 18446744073709551616 + U10 := by
    have e : lo * 2 ^ s / 18446744073709551616 = L := by
      rw [hL, ← hcop, Nat.mul_div_mul_right _ _ (Nat.pow_pos (by decide))]
    have := Nat.div_add_mod (lo * 2 ^ s) 18446744073709551616
    rw [e, ← hU10] at this
    omega
  have hU10l : U10 < 18446744073709551616 := by rw [hU10]; exact Nat.mod_lt _ (by decide)
  obtain ⟨U32, hU32⟩ : ∃ U32, U32 = Hs + L := ⟨_, rfl⟩
  have hU : V * (T * 4294967296) = U32 * 18446744073709551616 + U10 := by
    rw [← hpow, hV, Nat.add_mul, hlo, Nat.mul_right_comm, ← hHs, hU32]
    omega
  have hU32l : U32 < Y1 * 4294967296 := by omega
  obtain ⟨U1, hU1⟩ : ∃ U1, U1 = U10 / 4294967296 := ⟨_, rfl⟩
  obtain ⟨U0, hU0⟩ : ∃ U0, U0 = U10 % 4294967296 := ⟨_, rfl⟩
  have h10 : U10 = U1 * 4294967296 + U0 := by omega
  have hU0l : U0 < 4294967296 := by omega
  have hU1l : U1 < 4294967296 := by omega
  obtain ⟨Q1, hQ1⟩ : ∃ Q1, Q1 = U32 / Y1 := ⟨_, rfl⟩
  obtain ⟨R1, hR1⟩ : ∃ R1, R1 = U32 % Y1 := ⟨_, rfl⟩
  have hq1 : U32 = Q1 * Y1 + R1 := by rw [hQ1, hR1, Nat.mul_comm, Nat.div_add_mod]
  have hr1 : R1 < Y1 := by rw [hR1]; exact Nat.mod_lt _ hY0
  have hq1l : Q1 < 4294967296 := by rw [hQ1]; exact Nat.div_lt_of_lt_mul hU32l
  obtain ⟨U21, h21⟩ : ∃ U21, U21 = R1 * 4294967296 + U1 := ⟨_, rfl⟩
  have hU21l : U21 < Y1 * 4294967296 := by omega
  obtain ⟨Q0, hQ0⟩ : ∃ Q0, Q0 = U21 / Y1 := ⟨_, rfl⟩
  obtain ⟨R0, hR0⟩ : ∃ R0, R0 = U21 % Y1 := ⟨_, rfl⟩
  have hq0 : U21 = Q0 * Y1 + R0 := by rw [hQ0, hR0, Nat.mul_comm, Nat.div_add_mod]
  have hr0 : R0 < Y1 := by rw [hR0]; exact Nat.mod_lt _ hY0
  have hq0l : Q0 < 4294967296 := by rw [hQ0]; exact Nat.div_lt_of_lt_mul hU21l
  have KN := Lib.hid (knuth (V := V) (d := d) (T := T) hT0 hU h10 hU0l (by rw [← hY1]; exact hq1) h21 (by rw [← hY1]; exact hq0) (by rw [← hY1]; exact hr0))
  -- the walk's words
  have pw : ((2 : Int) ^ s) = ((2 ^ s : Nat) : Int) := by simp
  have pc : ((2 : Int) ^ (64 - s)) = ((2 ^ (64 - s) : Nat) : Int) := by simp
  obtain ⟨Y, hY⟩ : ∃ Y, Y = Y1 * 4294967296 := ⟨_, rfl⟩
  have wN : ∀ a : Nat, a < 18446744073709551616 → IntKind.u64.wrap (a : Int) = (a : Int) := fun a ha => by rw [IntKind.wrap_u64]; omega
  have e1 : IntKind.u64.wrap ((d : Int) * 2 ^ s) = (Y : Int) := by
    rw [pw, ← Int.natCast_mul, hdt, hY, wN _ hY64]
  have e2 : (Y : Int) / 4294967296 = (Y1 : Int) := by omega
  have e3 : bits BinOp.and IntKind.u64 (Y : Int) 4294967295 = 0 := by
    rw [Mul64.maskN Y (by omega)]; omega
  have eh : IntKind.u64.wrap ((hi : Int) * 2 ^ s) = (Hs : Int) := by
    rw [pw, ← Int.natCast_mul, ← hHs, wN _ (by omega)]
  have el : (lo : Int) / 2 ^ (64 - s) = (L : Int) := by
    rw [pc, hL]; exact (Int.natCast_ediv _ _).symm
  have eo : bits BinOp.or IntKind.u64 (Hs : Int) (L : Int) = (U32 : Int) := by
    have := bits_join .u64 64 (by decide) wraps_u64 s (Hs : Int) (L : Int) (by omega) (by rw [pw, hHs, ← Int.natCast_emod, Nat.mul_mod_left]; rfl) (by omega) (by omega) (by rw [pw]; omega) (by omega)
    rw [this, hU32]; omega
  have e5 : IntKind.u64.wrap ((lo : Int) * 2 ^ s) = (U10 : Int) := by
    rw [pw, ← Int.natCast_mul, IntKind.wrap_u64, hU10]; omega
  have e6 : (U10 : Int) / 4294967296 = (U1 : Int) := by omega
  have e7 : bits BinOp.and IntKind.u64 (U10 : Int) 4294967295 = (U0 : Int) := by
    rw [Mul64.maskN U10 hU10l, hU0]
  have e8 : IntKind.u64.wrap ((U32 : Int).tdiv (Y1 : Int)) = (Q1 : Int) := by
    rw [Int.tdiv_eq_ediv_of_nonneg (by omega), ← Int.natCast_ediv, ← hQ1, wN _ (by omega)]
  obtain ⟨P1, hP1⟩ : ∃ P1, P1 = Q1 * Y1 := ⟨_, rfl⟩
  have ep1 : (Q1 : Int) * (Y1 : Int) = (P1 : Int) := by rw [← Int.natCast_mul, hP1]
  rw [← hP1] at hq1
  have e9 : IntKind.u64.wrap ((U32 : Int) - IntKind.u64.wrap (P1 : Int)) = (R1 : Int) := by
    rw [wN P1 (by omega), IntKind.wrap_u64]; omega
  obtain ⟨PY, hPY⟩ : ∃ PY, PY = Q1 * Y := ⟨_, rfl⟩
  have ep2 : (Q1 : Int) * (Y : Int) = (PY : Int) := by rw [← Int.natCast_mul, hPY]
  have hPY2 : PY = P1 * 4294967296 := by rw [hPY, hY, ← Nat.mul_assoc, ← hP1]
  have e10 : IntKind.u64.wrap (IntKind.u64.wrap (IntKind.u64.wrap ((U32 : Int) * 4294967296) + (U1 : Int)) - IntKind.u64.wrap (PY : Int)) = (U21 : Int) := by
    simp only [IntKind.wrap_u64]; omega
  have e11 : IntKind.u64.wrap ((U21 : Int).tdiv (Y1 : Int)) = (Q0 : Int) := by
    rw [Int.tdiv_eq_ediv_of_nonneg (by omega), ← Int.natCast_ediv, ← hQ0, wN _ (by omega)]
  obtain ⟨P0, hP0⟩ : ∃ P0, P0 = Q0 * Y1 := ⟨_, rfl⟩
  have ep3 : (Q0 : Int) * (Y1 : Int) = (P0 : Int) := by rw [← Int.natCast_mul, hP0]
  rw [← hP0] at hq0
  have e12 : IntKind.u64.wrap ((U21 : Int) - IntKind.u64.wrap (P0 : Int)) = (R0 : Int) := by
    rw [wN P0 (by omega), IntKind.wrap_u64]; omega
  obtain ⟨PZ, hPZ⟩ : ∃ PZ, PZ = Q0 * Y := ⟨_, rfl⟩
  have ep4 : (Q0 : Int) * (Y : Int) = (PZ : Int) := by rw [← Int.natCast_mul, hPZ]
  have hPZ2 : PZ = P0 * 4294967296 := by rw [hPZ, hY, ← Nat.mul_assoc, ← hP0]
  obtain ⟨W, hW⟩ : ∃ W, W = R0 * 4294967296 + U0 := ⟨_, rfl⟩
  have e13 : IntKind.u64.wrap (IntKind.u64.wrap (IntKind.u64.wrap ((U21 : Int) * 4294967296) + (U0 : Int)) - IntKind.u64.wrap (PZ : Int)) = (W : Int) := by
    simp only [IntKind.wrap_u64]; omega
  rw [← hW, ← hpow] at KN
  obtain ⟨Z, hZ⟩ : ∃ Z, Z = W / 2 ^ s := ⟨_, rfl⟩
  have e14 : (W : Int) / 2 ^ s = (Z : Int) := by rw [pw, hZ]; exact (Int.natCast_ediv _ _).symm
  rw [← hZ] at KN
  have KQ := Lib.hid (show ((V / d : Nat) : Int) = (Q1 : Int) * 4294967296 + (Q0 : Int) by rw [KN.out.1]; omega)
  have KR := Lib.hid (show ((V % d : Nat) : Int) = (Z : Int) by rw [KN.out.2])
  have f1 : (1 : Int) ≤ Y1 := by omega
  have f2 : ((Y1 : Int) == 0) = false := by rw [beq_eq_false_iff_ne]; omega
  have f3 : (Q1 : Int) < 4294967296 := by omega
  have f4 : (Q0 : Int) < 4294967296 := by omega
  have f5 : (R1 : Int) < 4294967296 := by omega
  have f6 : (R0 : Int) < 4294967296 := by omega
  have f7 : (U1 : Int) < 4294967296 := by omega
  have f8 : (U0 : Int) < 4294967296 := by omega
  have f9 : 64 - (Lib.bitLen ((d : Int)).toNat : Int) = (s : Int) := by rw [Int.toNat_natCast]; omega
  have g1 : (1 : Int) ≤ s := by omega
  have g2 : (s : Int) ≤ 63 := by omega
  have b1 : ((hi : Int) == 0) = false := by rw [beq_eq_false_iff_ne]; omega
  have b2 : ((d : Int) == 0) = false := by rw [beq_eq_false_iff_ne]; omega
  have b3 : (hi : Int) < d := by omega
  have b4 : (decide ((d : Int) ≤ hi)) = false := by simp; omega
  have LZ := Lib.hid (fun w => Tryd.bits_LeadingZeros64 (d : Int) w (by omega) (by omega))
  rw [f9] at LZ
  obtain ⟨VD, hVD⟩ : ∃ VD : Int, VD = ((V / d : Nat) : Int) := ⟨_, rfl⟩
  obtain ⟨VM, hVM⟩ : ∃ VM : Int, VM = ((V % d : Nat) : Int) := ⟨_, rfl⟩
  rw [← hVD, ← hVM]
  rw [← hVD] at KQ
  rw [← hVM] at KR
  have F1 := Lib.hid f1
  have F3 := Lib.hid (show 0 ≤ (Q1 : Int) ∧ (Q1 : Int) ≤ 4294967295 by omega)
  have F4 := Lib.hid (show 0 ≤ (Q0 : Int) ∧ (Q0 : Int) ≤ 4294967295 by omega)
  have F5 := Lib.hid (show 0 ≤ (R1 : Int) ∧ (R1 : Int) ≤ 4294967295 by omega)
  have F6 := Lib.hid (show 0 ≤ (R0 : Int) ∧ (R0 : Int) ≤ 4294967295 by omega)
  have F7 := Lib.hid (show 0 ≤ (U1 : Int) ∧ (U1 : Int) ≤ 4294967295 by omega)
  have F8 := Lib.hid (show 0 ≤ (U0 : Int) ∧ (U0 : Int) ≤ 4294967295 by omega)
  have E1 := Lib.hid e1
  have E2 := Lib.hid e2
  have E3 := Lib.hid e3
  have EH := Lib.hid eh
  have EL := Lib.hid el
  have EO := Lib.hid eo
  have E5 := Lib.hid e5
  have E6 := Lib.hid e6
  have E7 := Lib.hid e7
  have E8 := Lib.hid e8
  have EP1 := Lib.hid ep1
  have E9 := Lib.hid e9
  have EP2 := Lib.hid ep2
  have E10 := Lib.hid e10
  have E11 := Lib.hid e11
  have EP3 := Lib.hid ep3
  have E12 := Lib.hid e12
  have EP4 := Lib.hid ep4
  have E13 := Lib.hid e13
  have E14 := Lib.hid e14
  have hz : ¬ (IntKind.u64.wrap ((d : Int) * 2 ^ s) / 4294967296 = 0) := by rw [e1, e2]; omega
  clear hVD hVM hV hs l1 l2 l3 hlen hcop hdt hY64 hHY hHs hLlt hL hlo hU10 hU10l hU hU32 hU32l hU1 hU0 h10 hU0l hU1l hQ1 hR1 hq1 hr1 hq1l hQ0 hR0 hq0 hr0 hq0l KN pw pc wN hP1 hPY hPY2 hP0 hPZ hPZ2 hW hZ f9 hT hT0 hpow hY1 hY0 h21 hU21l h1 h2 h3 h4 hY f1 f2 f3 f4 f5 f6 f7 f8 e1 e2 e3 eh el eo e5 e6 e7 e8 ep1 e9 ep2 e10 e11 ep3 e12 ep4 e13 e14
  go_enter Tryd.func55, Tryd.ntmps55
  go_wp2_with fail
  refine (LZ.out _).mono ?_
  rintro e w' ⟨rfl, rfl⟩
  go_wp2_with fail
  simp only [E1.out, E2.out, E3.out, EH.out, EL.out, EO.out, E5.out, E6.out, E7.out, E8.out, EP1.out, E9.out]
  generalize (Q1 : Int) = q1 at *
  generalize (R1 : Int) = r1 at *
  generalize (U1 : Int) = u1 at *
  generalize (U0 : Int) = u0 at *
  generalize (Q0 : Int) = q0 at *
  generalize (R0 : Int) = r0 at *
  generalize (U32 : Int) = u32 at *
  generalize (U21 : Int) = u21 at *
  generalize (Y : Int) = y at *
  generalize (Y1 : Int) = y1 at *
  obtain ⟨f3, f3'⟩ := F3.out
  obtain ⟨f5, f5'⟩ := F5.out
  obtain ⟨f7, f7'⟩ := F7.out
  go_loopw [15, 16] (fun q r wr => q = .int .u64 q1 ∧ r = .int .u64 r1 ∧ wr = w') (fun _ _ _ => 0)
  case atStart => exact ⟨rfl, rfl, rfl⟩
  case round =>
    obtain ⟨rfl, rfl, rfl⟩ := hrel
    have f1 := F1.out
    have f1' : ¬ y1 = 0 := by omega
    go_wp2_with fail
    simp only [EP2.out, E10.out, E11.out, EP3.out, E12.out]
    obtain ⟨f4, f4'⟩ := F4.out
    obtain ⟨f6, f6'⟩ := F6.out
    obtain ⟨f8, f8'⟩ := F8.out
    go_loopw [18, 16] (fun q r w2 => q = .int .u64 q0 ∧ r = .int .u64 r0 ∧ w2 = wr) (fun _ _ _ => 0)
    case atStart => exact ⟨rfl, rfl, rfl⟩
    case round =>
      obtain ⟨rfl, rfl, rfl⟩ := hrel
      go_wp2_with fail
      simp only [EP4.out, E13.out, E14.out]
      go_ret2
      exact ⟨by rw [KQ.out, KR.out]; rfl, rfl⟩
theorem div64_zero (lo d : Nat) (w : World) (h2 : 0 < d) (h3 : d ≤ 4294967295) (h4 : lo < 18446744073709551616) :
    Calls Tryd.prog 55 #[.int .u64 0, .int .u64 lo, .int .u64 d] w fun e w' => e = .returned (.tuple #[.int .u64 ((lo / d : Nat) : Int), .int .u64 ((lo % d : Nat) : Int)]) ∧ ∃ k, w' = w.drewN k := by
  have b2 : ((d : Int) == 0) = false := by rw [beq_eq_false_iff_ne]; omega
  have b3 : (1 : Int) ≤ d := by omega
  have b4 : (decide ((d : Int) ≤ 0)) = false := by simp; omega
  have hle := Nat.div_le_self lo d
  have e1 : IntKind.u64.wrap ((lo : Int) / (d : Int)) = ((lo / d : Nat) : Int) := by
    rw [← Int.natCast_ediv]
    generalize lo / d = z at hle ⊢
    rw [IntKind.wrap_u64]; omega
  have e2 : (lo : Int) % (d : Int) = ((lo % d : Nat) : Int) := (Int.natCast_emod _ _).symm
  have E1 := Lib.hid e1
  have E2 := Lib.hid e2
  clear e1 e2 hle
  go_enter Tryd.func55, Tryd.ntmps55
  go_wp2_with fail
  go_quiet (fail)
  rw [E1.out, E2.out]
  go_wp2_with fail
  go_ret2
  exact ⟨rfl, _, rfl⟩
theorem div64_all (hi lo d : Nat) (w : World) (h2 : hi < d) (h3 : d ≤ 4294967295) (h4 : lo < 18446744073709551616) (V : Nat) (hV : V = hi * 18446744073709551616 + lo) :
    Calls Tryd.prog 55 #[.int .u64 hi, .int .u64 lo, .int .u64 d] w fun e w' => e = .returned (.tuple #[.int .u64 ((V / d : Nat) : Int), .int .u64 ((V % d : Nat) : Int)]) ∧ ∃ k, w' = w.drewN k := by
  by_cases h0 : hi = 0
  · subst h0
    have e : V = lo := by omega
    rw [e]
    exact div64_zero lo d w h2 h3 h4
  · exact (div64_any hi lo d w (by omega) h2 h3 h4 V hV).mono fun e w' ⟨h, hw⟩ => ⟨h, 0, hw⟩
end Go.Proofs.YtdccjkbhmpfcmaaDoor
