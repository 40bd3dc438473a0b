/-
  The contract of Text in the reference. Its conditions are its hypotheses.
-/
import Derived.Test.YtneiljaknmeagaaGreatDoorQe
import Derived.Test.YtneiljaknmeagaaGreatDoorQf
namespace Go.Proofs.YtneiljaknmeagaaGreatDoor
open Go.RowKit Go.Joins
set_option linter.unusedVariables false
set_option linter.unusedSimpArgs false
theorem lea_parts (x : Ls) (hxr : x.reel.length ≤ 100) (n1 : 0 ≤ x.ses ∧ x.ses ≤ mRf) (n2 : 0 ≤ x.fen ∧ x.fen ≤ mRf) (n3 : 0 ≤ x.unt ∧ x.unt ≤ mRf) :
    ∃ a b d t0 t1 t2 t3 t4 t5 t6 t7, (∀ W, Calls Tryz.prog 35 #[.int .i64 (x.ses)] W fun e w' => e = .returned (.string (sB a)) ∧ w' = W) ∧ (∀ W, Calls Tryz.prog 35 #[.int .i64 (x.fen)] W fun e w' => e = .returned (.string (sB b)) ∧ w' = W) ∧ (∀ W, Calls Tryz.prog 35 #[.int .i64 (x.unt)] W fun e w' => e = .returned (.string (sB d)) ∧ w' = W) ∧ (∀ w', (Op.stringOp .add ⟨#[76, 69, 65, 83, 69, 32]⟩ (sB x.reel)).run Tryz.prog w' = .ok (.string (sB t0)) w') ∧ (∀ w', (Op.stringOp .add (sB t0) ⟨#[32]⟩).run Tryz.prog w' = .ok (.string (sB t1)) w') ∧ (∀ w', (Op.stringOp .add (sB t1) (sB a)).run Tryz.prog w' = .ok (.string (sB t2)) w') ∧ (∀ w', (Op.stringOp .add (sB t2) ⟨#[32]⟩).run Tryz.prog w' = .ok (.string (sB t3)) w') ∧ (∀ w', (Op.stringOp .add (sB t3) (sB b)).run Tryz.prog w' = .ok (.string (sB t4)) w') ∧ (∀ w', (Op.stringOp .add (sB t4) ⟨#[32]⟩).run Tryz.prog w' = .ok (.string (sB t5)) w') ∧ (∀ w', (Op.stringOp .add (sB t5) (sB d)).run Tryz.prog w' = .ok (.string (sB t6)) w') ∧ (∀ w', (Op.stringOp .add (sB t6) ⟨#[10]⟩).run Tryz.prog w' = .ok (.string (sB t7)) w') ∧ t7.length ≤ 200 ∧ t7 = lineT (leaseW ++ x.reel) [x.ses, x.fen, x.unt] := by
  obtain ⟨a, ha⟩ : ∃ zz : List UInt8, zz = Lib.itoa (x.ses) := ⟨_, rfl⟩
  have na : 0 ≤ x.ses ∧ x.ses ≤ 1109889995776 := n1
  have HCa := Lib.hid (show ∀ W, Calls Tryz.prog 35 #[.int .i64 (x.ses)] W fun e w' => e = .returned (.string (sB a)) ∧ w' = W from fun W => by rw [ha]; exact decr_any _ W na.1 (by omega))
  have la : a.length ≤ 21 := by rw [ha]; exact Lib.itoa_length_le _ (by omega) (by omega)
  obtain ⟨b, hb⟩ : ∃ zz : List UInt8, zz = Lib.itoa (x.fen) := ⟨_, rfl⟩
  have nb : 0 ≤ x.fen ∧ x.fen ≤ 1109889995776 := n2
  have HCb := Lib.hid (show ∀ W, Calls Tryz.prog 35 #[.int .i64 (x.fen)] W fun e w' => e = .returned (.string (sB b)) ∧ w' = W from fun W => by rw [hb]; exact decr_any _ W nb.1 (by omega))
  have lb : b.length ≤ 21 := by rw [hb]; exact Lib.itoa_length_le _ (by omega) (by omega)
  obtain ⟨d, hd⟩ : ∃ zz : List UInt8, zz = Lib.itoa (x.unt) := ⟨_, rfl⟩
  have nd : 0 ≤ x.unt ∧ x.unt ≤ 1109889995776 := n3
  have HCd := Lib.hid (show ∀ W, Calls Tryz.prog 35 #[.int .i64 (x.unt)] W fun e w' => e = .returned (.string (sB d)) ∧ w' = W from fun W => by rw [hd]; exact decr_any _ W nd.1 (by omega))
  have ld : d.length ≤ 21 := by rw [hd]; exact Lib.itoa_length_le _ (by omega) (by omega)
  obtain ⟨t0, ht0⟩ : ∃ zz : List UInt8, zz = [76, 69, 65, 83, 69, 32] ++ x.reel := ⟨_, rfl⟩
  have lt0 : t0.length = 6 + x.reel.length := by rw [ht0]; exact List.length_append ..
  have kt0 : ∀ w', (Op.stringOp .add ⟨#[76, 69, 65, 83, 69, 32]⟩ (sB x.reel)).run Tryz.prog w' = .ok (.string (sB t0)) w' := fun w' => by rw [ht0]; exact add_sB (a := [76, 69, 65, 83, 69, 32]) (b := x.reel) (by (try simp only [List.length_cons, List.length_nil]); omega) w'
  obtain ⟨t1, ht1⟩ : ∃ zz : List UInt8, zz = t0 ++ [32] := ⟨_, rfl⟩
  have lt1 : t1.length = t0.length + 1 := by rw [ht1]; exact List.length_append ..
  have kt1 : ∀ w', (Op.stringOp .add (sB t0) ⟨#[32]⟩).run Tryz.prog w' = .ok (.string (sB t1)) w' := fun w' => by rw [ht1]; exact add_sB (a := t0) (b := [32]) (by (try simp only [List.length_cons, List.length_nil]); omega) w'
  obtain ⟨t2, ht2⟩ : ∃ zz : List UInt8, zz = t1 ++ a := ⟨_, rfl⟩
  have lt2 : t2.length = t1.length + a.length := by rw [ht2]; exact List.length_append ..
  have kt2 : ∀ w', (Op.stringOp .add (sB t1) (sB a)).run Tryz.prog w' = .ok (.string (sB t2)) w' := fun w' => by rw [ht2]; exact add_sB (a := t1) (b := a) (by (try simp only [List.length_cons, List.length_nil]); omega) w'
  obtain ⟨t3, ht3⟩ : ∃ zz : List UInt8, zz = t2 ++ [32] := ⟨_, rfl⟩
  have lt3 : t3.length = t2.length + 1 := by rw [ht3]; exact List.length_append ..
  have kt3 : ∀ w', (Op.stringOp .add (sB t2) ⟨#[32]⟩).run Tryz.prog w' = .ok (.string (sB t3)) w' := fun w' => by rw [ht3]; exact add_sB (a := t2) (b := [32]) (by (try simp only [List.length_cons, List.length_nil]); omega) w'
  obtain ⟨t4, ht4⟩ : ∃ zz : List UInt8, zz = t3 ++ b := ⟨_, rfl⟩
  have lt4 : t4.length = t3.length + b.length := by rw [ht4]; exact List.length_append ..
  have kt4 : ∀ w', (Op.stringOp .add (sB t3) (sB b)).run Tryz.prog w' = .ok (.string (sB t4)) w' := fun w' => by rw [ht4]; exact add_sB (a := t3) (b := b) (by (try simp only [List.length_cons, List.length_nil]); omega) w'
  obtain ⟨t5, ht5⟩ : ∃ zz : List UInt8, zz = t4 ++ [32] := ⟨_, rfl⟩
  have lt5 : t5.length = t4.length + 1 := by rw [ht5]; exact List.length_append ..
  have kt5 : ∀ w', (Op.stringOp .add (sB t4) ⟨#[32]⟩).run Tryz.prog w' = .ok (.string (sB t5)) w' := fun w' => by rw [ht5]; exact add_sB (a := t4) (b := [32]) (by (try simp only [List.length_cons, List.length_nil]); omega) w'
  obtain ⟨t6, ht6⟩ : ∃ zz : List UInt8, zz = t5 ++ d := ⟨_, rfl⟩
  have lt6 : t6.length = t5.length + d.length := by rw [ht6]; exact List.length_append ..
  have kt6 : ∀ w', (Op.stringOp .add (sB t5) (sB d)).run Tryz.prog w' = .ok (.string (sB t6)) w' := fun w' => by rw [ht6]; exact add_sB (a := t5) (b := d) (by (try simp only [List.length_cons, List.length_nil]); omega) w'
  obtain ⟨t7, ht7⟩ : ∃ zz : List UInt8, zz = t6 ++ [10] := ⟨_, rfl⟩
  have lt7 : t7.length = t6.length + 1 := by rw [ht7]; exact List.length_append ..
  have kt7 : ∀ w', (Op.stringOp .add (sB t6) ⟨#[10]⟩).run Tryz.prog w' = .ok (.string (sB t7)) w' := fun w' => by rw [ht7]; exact add_sB (a := t6) (b := [10]) (by (try simp only [List.length_cons, List.length_nil]); omega) w'
  refine ⟨a, b, d, t0, t1, t2, t3, t4, t5, t6, t7, HCa.out, HCb.out, HCd.out, kt0, kt1, kt2, kt3, kt4, kt5, kt6, kt7, by omega, ?_⟩
  rw [ht7, ht6, ht5, ht4, ht3, ht2, ht1, ht0, ha, hb, hd]
  simp [lineT, numsT, leaseW]
set_option maxRecDepth 100000 in
set_option maxHeartbeats 8000000 in
theorem textr_any (T : Tb) (sv lv : Value) (w : World) (h : RefT T sv lv w) (hin : InR T) (hf : Fit T) :
    Calls Tryz.prog 9 #[refV T sv lv] w fun e w' => e = .returned (.string (sB (textT T))) ∧ Below w.heap.size w w' := by
  obtain ⟨f0, f1, f2, f3, f4, f5, f6⟩ := hf
  have HLS := Lib.hid (fun k => textS_len (S := T.ses.take k) (fun n hn => f3 n (List.mem_of_mem_take hn)))
  have HLL := Lib.hid (fun k => textL_len (L := T.lea.take k) (fun n hn => f6 n (List.mem_of_mem_take hn)))
  have HF6 := Lib.hid f6
  clear f0 f1 f2 f3 f6
  obtain ⟨⟨A, c, rfl, hA⟩, A', c', rfl, hA', hcc, hcm⟩ := h
  have HA := Lib.hid hA
  have HA' := Lib.hid hA'
  have HIN := Lib.hid hin
  clear hA hA' hcc hcm hin
  obtain ⟨R, hR⟩ : ∃ R, R = textT T := ⟨_, rfl⟩
  have HR := Lib.hid hR
  rw [← hR]
  clear hR
  obtain ⟨B, hB⟩ : ∃ B, B = w.heap.size := ⟨_, rfl⟩
  obtain ⟨a, ha⟩ : ∃ zz : List UInt8, zz = Lib.itoa (T.now) := ⟨_, rfl⟩
  have na : 0 ≤ T.now ∧ T.now ≤ 1109889995776 := HIN.out.1
  have HCa := Lib.hid (show ∀ W, Calls Tryz.prog 35 #[.int .i64 (T.now)] W fun e w' => e = .returned (.string (sB a)) ∧ w' = W from fun W => by rw [ha]; exact decr_any _ W na.1 (by omega))
  have la : a.length ≤ 21 := by rw [ha]; exact Lib.itoa_length_le _ (by omega) (by omega)
  obtain ⟨b, hb⟩ : ∃ zz : List UInt8, zz = Lib.itoa (T.ls) := ⟨_, rfl⟩
  have nb : 0 ≤ T.ls ∧ T.ls ≤ 1109889995776 := HIN.out.2.1
  have HCb := Lib.hid (show ∀ W, Calls Tryz.prog 35 #[.int .i64 (T.ls)] W fun e w' => e = .returned (.string (sB b)) ∧ w' = W from fun W => by rw [hb]; exact decr_any _ W nb.1 (by omega))
  have lb : b.length ≤ 21 := by rw [hb]; exact Lib.itoa_length_le _ (by omega) (by omega)
  obtain ⟨d, hd⟩ : ∃ zz : List UInt8, zz = Lib.itoa (T.lf) := ⟨_, rfl⟩
  have nd : 0 ≤ T.lf ∧ T.lf ≤ 1109889995776 := HIN.out.2.2.1
  have HCd := Lib.hid (show ∀ W, Calls Tryz.prog 35 #[.int .i64 (T.lf)] W fun e w' => e = .returned (.string (sB d)) ∧ w' = W from fun W => by rw [hd]; exact decr_any _ W nd.1 (by omega))
  have ld : d.length ≤ 21 := by rw [hd]; exact Lib.itoa_length_le _ (by omega) (by omega)
  obtain ⟨p0, hp0⟩ : ∃ zz : List UInt8, zz = [76, 79, 67, 75, 83, 32] ++ a := ⟨_, rfl⟩
  have lp0 : p0.length = 6 + a.length := by rw [hp0]; exact List.length_append ..
  have kp0 : ∀ w', (Op.stringOp .add ⟨#[76, 79, 67, 75, 83, 32]⟩ (sB a)).run Tryz.prog w' = .ok (.string (sB p0)) w' := fun w' => by rw [hp0]; exact add_sB (a := [76, 79, 67, 75, 83, 32]) (b := a) (by (try simp only [List.length_cons, List.length_nil]); omega) w'
  obtain ⟨p1, hp1⟩ : ∃ zz : List UInt8, zz = p0 ++ [32] := ⟨_, rfl⟩
  have lp1 : p1.length = p0.length + 1 := by rw [hp1]; exact List.length_append ..
  have kp1 : ∀ w', (Op.stringOp .add (sB p0) ⟨#[32]⟩).run Tryz.prog w' = .ok (.string (sB p1)) w' := fun w' => by rw [hp1]; exact add_sB (a := p0) (b := [32]) (by (try simp only [List.length_cons, List.length_nil]); omega) w'
  obtain ⟨p2, hp2⟩ : ∃ zz : List UInt8, zz = p1 ++ b := ⟨_, rfl⟩
  have lp2 : p2.length = p1.length + b.length := by rw [hp2]; exact List.length_append ..
  have kp2 : ∀ w', (Op.stringOp .add (sB p1) (sB b)).run Tryz.prog w' = .ok (.string (sB p2)) w' := fun w' => by rw [hp2]; exact add_sB (a := p1) (b := b) (by (try simp only [List.length_cons, List.length_nil]); omega) w'
  obtain ⟨p3, hp3⟩ : ∃ zz : List UInt8, zz = p2 ++ [32] := ⟨_, rfl⟩
  have lp3 : p3.length = p2.length + 1 := by rw [hp3]; exact List.length_append ..
  have kp3 : ∀ w', (Op.stringOp .add (sB p2) ⟨#[32]⟩).run Tryz.prog w' = .ok (.string (sB p3)) w' := fun w' => by rw [hp3]; exact add_sB (a := p2) (b := [32]) (by (try simp only [List.length_cons, List.length_nil]); omega) w'
  obtain ⟨p4, hp4⟩ : ∃ zz : List UInt8, zz = p3 ++ d := ⟨_, rfl⟩
  have lp4 : p4.length = p3.length + d.length := by rw [hp4]; exact List.length_append ..
  have kp4 : ∀ w', (Op.stringOp .add (sB p3) (sB d)).run Tryz.prog w' = .ok (.string (sB p4)) w' := fun w' => by rw [hp4]; exact add_sB (a := p3) (b := d) (by (try simp only [List.length_cons, List.length_nil]); omega) w'
  obtain ⟨p5, hp5⟩ : ∃ zz : List UInt8, zz = p4 ++ [10] := ⟨_, rfl⟩
  have lp5 : p5.length = p4.length + 1 := by rw [hp5]; exact List.length_append ..
  have kp5 : ∀ w', (Op.stringOp .add (sB p4) ⟨#[10]⟩).run Tryz.prog w' = .ok (.string (sB p5)) w' := fun w' => by rw [hp5]; exact add_sB (a := p4) (b := [10]) (by (try simp only [List.length_cons, List.length_nil]); omega) w'
  have HP := Lib.hid (show p5 = lineT locksW [T.now, T.ls, T.lf] by
    rw [hp5, hp4, hp3, hp2, hp1, hp0, ha, hb, hd]
    simp [lineT, numsT, locksW])
  have hpl : p5.length ≤ 100 := by omega
  clear hp0 hp1 hp2 hp3 hp4 hp5
  clear ha hb hd na nb nd la lb ld lp0 lp1 lp2 lp3 lp4 lp5
  go_enter Tryz.func9, Tryz.ntmps9
  go_wp2_with fail
  rw [← hB]
  generalize hw1 : World.alloc _ _ = w1
  have F0 := Lib.hid (show Held w1 B [.int .i64 T.now, .int .i64 T.ls, .int .i64 T.lf, .slice A T.ses.length c, .slice A' T.lea.length c'] by subst hw1; exact Held.new hB)
  have G := Lib.hid (show Below w.heap.size w w1 by subst hw1; exact below_one _ _)
  clear hw1 hB
  have q0 : w1.cell? ⟨B, 0, none⟩ = some (.int .i64 T.now) := F0.out.cell 0
  have q1 : w1.cell? ⟨B, 1, none⟩ = some (.int .i64 T.ls) := F0.out.cell 1
  have q2 : w1.cell? ⟨B, 2, none⟩ = some (.int .i64 T.lf) := F0.out.cell 2
  go_quiet (first | (go_at_call_of 35 (Value.int .i64 T.now); exact Calls.quiet_of_same (HCa.out _)) | (go_at_call_of 35 (Value.int .i64 T.ls); exact Calls.quiet_of_same (HCb.out _)) | (go_at_call_of 35 (Value.int .i64 T.lf); exact Calls.quiet_of_same (HCd.out _)))
  generalize hw2 : w1.drewN _ = w2
  have F2 := Lib.hid (show Held w2 B [.int .i64 T.now, .int .i64 T.ls, .int .i64 T.lf, .slice A T.ses.length c, .slice A' T.lea.length c'] by rw [← hw2]; exact F0.out.drewN _)
  have G2 := Lib.hid (show Below w.heap.size w w2 by rw [← hw2]; exact below_drewN G.out _)
  clear hw2 q0 q1 q2 F0 G HCa HCb HCd kp0 kp1 kp2 kp3 kp4 kp5
  have hBw : B < w2.heap.size := F2.out.lt
  generalize p5 = X0 at *
  have q := F2.out.cell
  go_wp2_with fail
  clear q
  go_loopw [3, 26] (fun s i wr => ∃ (k : Nat) (S : List UInt8), k ≤ T.ses.length ∧ i = .int .i64 k ∧ s = .string (sB S) ∧ Hid (S = X0 ++ textS (T.ses.take k)) ∧ wr = w2) (fun _ i _ => T.ses.length - (intOf i).toNat)
  case atStart => exact ⟨0, X0, by omega, rfl, rfl, Lib.hid (by simp [textS]), rfl⟩
  case round =>
    obtain ⟨k, S, hk, rfl, rfl, HS, rfl⟩ := hrel
    have hsl : S.length ≤ 100 + 30 * k := by
      rw [HS.out, List.length_append]
      have := HLS.out k
      have := List.length_take_le k T.ses
      omega
    by_cases hlt : k < T.ses.length
    · have hlt2 : (k : Int) < (T.ses.length : Int) := by omega
      obtain ⟨n, hn⟩ : ∃ n, T.ses[k]? = some n := ⟨_, List.getElem?_eq_getElem hlt⟩
      obtain ⟨b, o, rfl, hc⟩ := (HA.out.below G2.out (Nat.le_refl _)) k (.int .i64 n) (by rw [List.getElem?_map, hn]; rfl)
      obtain ⟨a, ha⟩ : ∃ zz : List UInt8, zz = Lib.itoa (n) := ⟨_, rfl⟩
      have na : 0 ≤ n ∧ n ≤ 1109889995776 := HIN.out.2.2.2.1 n (List.mem_of_getElem? hn)
      have HCa := Lib.hid (show ∀ W, Calls Tryz.prog 35 #[.int .i64 (n)] W fun e w' => e = .returned (.string (sB a)) ∧ w' = W from fun W => by rw [ha]; exact decr_any _ W na.1 (by omega))
      have la : a.length ≤ 21 := by rw [ha]; exact Lib.itoa_length_le _ (by omega) (by omega)
      obtain ⟨q0, hq0⟩ : ∃ zz : List UInt8, zz = [83, 69, 83, 83, 73, 79, 78, 32] ++ a := ⟨_, rfl⟩
      have lq0 : q0.length = 8 + a.length := by rw [hq0]; exact List.length_append ..
      have kq0 : ∀ w', (Op.stringOp .add ⟨#[83, 69, 83, 83, 73, 79, 78, 32]⟩ (sB a)).run Tryz.prog w' = .ok (.string (sB q0)) w' := fun w' => by rw [hq0]; exact add_sB (a := [83, 69, 83, 83, 73, 79, 78, 32]) (b := a) (by (try simp only [List.length_cons, List.length_nil]); omega) w'
      obtain ⟨q1, hq1⟩ : ∃ zz : List UInt8, zz = q0 ++ [10] := ⟨_, rfl⟩
      have lq1 : q1.length = q0.length + 1 := by rw [hq1]; exact List.length_append ..
      have kq1 : ∀ w', (Op.stringOp .add (sB q0) ⟨#[10]⟩).run Tryz.prog w' = .ok (.string (sB q1)) w' := fun w' => by rw [hq1]; exact add_sB (a := q0) (b := [10]) (by (try simp only [List.length_cons, List.length_nil]); omega) w'
      have HS2 := Lib.hid (show S ++ q1 = X0 ++ textS (T.ses.take (k + 1)) by
        rw [textS_snoc hn, HS.out, List.append_assoc, hq1, hq0, ha]
        simp [lineT, numsT, sessionW])
      have ks := fun w' => add_sB (a := S) (b := q1) (by omega) w'
      have HX := Lib.hid (show ∃ z, z = S ++ q1 from ⟨_, rfl⟩)
      obtain ⟨S', hS'⟩ := HX.out
      rw [← hS'] at ks HS2
      clear HX hS' hn hq0 hq1 ha na la hsl lq0 lq1
      go_wp2_with fail
      refine (HCa.out _).mono ?_
      rintro e w9 ⟨rfl, rfl⟩
      go_wp2_with fail
      go_roundw
      case rel => exact ⟨k + 1, S', by omega, by go_num, rfl, HS2, by trivial⟩
      case measure => simp [intOf]; omega
    · obtain rfl : k = T.ses.length := by omega
      have HX1 := Lib.hid (show S.length ≤ 30100 by omega)
      have HS1 := Lib.hid (show S = X0 ++ textS T.ses by have := HS.out; rwa [List.take_length] at this)
      have q := F2.out.cell
      clear hlt hsl HS
      go_wp2_with fail
      clear q
      obtain ⟨D, hD⟩ : ∃ D, D = wr.heap.size := ⟨_, rfl⟩
      have HD := Lib.hid hD
      clear hD
      go_loopw [3, 40] (fun s i wq => ∃ (k : Nat) (Z : List UInt8), k ≤ T.lea.length ∧ i = .int .i64 k ∧ s = .string (sB Z) ∧ Hid (Z = S ++ textL (T.lea.take k)) ∧ Hid (Below D wr wq)) (fun _ i _ => T.lea.length - (intOf i).toNat)
      case atStart => exact ⟨0, S, by omega, rfl, rfl, Lib.hid (by simp [textL]), Lib.hid (Below.refl _ _)⟩
      case round =>
        obtain ⟨k, Z, hk, rfl, rfl, HZ, G3⟩ := hrel
        have hDw : D ≤ wr.heap.size := by have := G3.out.size; have := HD.out; omega
        have HGW := Lib.hid (show Below w.heap.size w wr from G2.out.trans (G3.out.mono (by have := G2.out.size; have := HD.out; omega)))
        have hzl : Z.length ≤ 30100 + 173 * k := by
          rw [HZ.out, List.length_append]
          have := HLL.out k
          have := HX1.out
          have := List.length_take_le k T.lea
          omega
        by_cases hlt : k < T.lea.length
        · have hlt2 : (k : Int) < (T.lea.length : Int) := by omega
          obtain ⟨x, hx⟩ : ∃ x, T.lea[k]? = some x := ⟨_, List.getElem?_eq_getElem hlt⟩
          have HRw := HA'.out.below HGW.out (Nat.le_refl _)
          obtain ⟨g, o, rfl⟩ := LeasAt.some HRw hx
          obtain ⟨q0, q1, q2, q3⟩ := LeasAt.get HRw hx
          have hxm := List.mem_of_getElem? hx
          have hxr := (HF6.out x hxm).1
          obtain ⟨a, b, d, t0, t1, t2, t3, t4, t5, t6, t7, hca, hcb, hcd, kt0, kt1, kt2, kt3, kt4, kt5, kt6, kt7, hlq, hq⟩ := lea_parts x hxr (HIN.out.2.2.2.2 x hxm).1 (HIN.out.2.2.2.2 x hxm).2.1 (HIN.out.2.2.2.2 x hxm).2.2
          have HCa := Lib.hid hca
          have HCb := Lib.hid hcb
          have HCd := Lib.hid hcd
          have HZ2 := Lib.hid (show Z ++ t7 = S ++ textL (T.lea.take (k + 1)) by
            rw [textL_snoc hx, HZ.out, List.append_assoc, hq])
          have hzb : Z.length ≤ 300000 := by omega
          have ks := fun w' => add_sB (a := Z) (b := t7) (Nat.le_trans (Nat.add_le_add hzb hlq) (by decide)) w'
          have HX := Lib.hid (show ∃ z, z = Z ++ t7 from ⟨_, rfl⟩)
          obtain ⟨Z', hZ'⟩ := HX.out
          rw [← hZ'] at ks HZ2
          clear HX hZ' hx HRw hxm hca hcb hcd hlq hq hzl hxr hzb
          go_wp2_with fail
          generalize hw5 : World.alloc _ _ = w5
          have F5 : Held w5 wr.heap.size [.string (sB x.reel), .int .i64 x.ses, .int .i64 x.fen, .int .i64 x.unt] := by subst hw5; exact Held.new rfl
          have G5 := Lib.hid (show Below D wr w5 by subst hw5; exact (Below.refl _ _).alloc hDw _)
          have G6 := Lib.hid (G3.out.trans G5.out)
          have e0 : w5.cell? ⟨wr.heap.size, 0, none⟩ = some (Value.string (sB x.reel)) := F5.cell 0
          have e1 : w5.cell? ⟨wr.heap.size, 1, none⟩ = some (.int .i64 x.ses) := F5.cell 1
          have e2 : w5.cell? ⟨wr.heap.size, 2, none⟩ = some (.int .i64 x.fen) := F5.cell 2
          have e3 : w5.cell? ⟨wr.heap.size, 3, none⟩ = some (.int .i64 x.unt) := F5.cell 3
          clear hw5 q0 q1 q2 q3 F5
          go_quiet (first | (go_at_call_of 35 (Value.int .i64 x.ses); exact Calls.quiet_of_same (HCa.out _)) | (go_at_call_of 35 (Value.int .i64 x.fen); exact Calls.quiet_of_same (HCb.out _)) | (go_at_call_of 35 (Value.int .i64 x.unt); exact Calls.quiet_of_same (HCd.out _)))
          all_goals
            go_wp2_with fail
            go_roundw
            case rel => exact ⟨k + 1, Z', by omega, by go_num, rfl, HZ2, Lib.hid (below_drewN G6.out _)⟩
            case measure => simp [intOf]; omega
        · obtain rfl : k = T.lea.length := by omega
          have HE := Lib.hid (show Z = R by
            have h1 := HZ.out
            rw [List.take_length] at h1
            rw [h1, HS1.out, HR.out, HP.out]
            rfl)
          clear hlt hzl
          go_wp2_with fail
          go_ret
          exact ⟨by rw [← HE.out]; rfl, HGW.out⟩
end Go.Proofs.YtneiljaknmeagaaGreatDoor
