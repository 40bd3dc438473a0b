/-
  The contract of the law SccLines. Its conditions are its hypotheses.
-/
import Derived.Test.YtbliilemjkjimaaDoorCm
import Derived.Test.YtbliilemjkjimaaDoorLN
import Derived.Test.YtbliilemjkjimaaDoorSy
import Derived.Test.YtbliilemjkjimaaDoorLU
import Derived.Test.YtbliilemjkjimaaDoorShelf
namespace Go.Proofs.YtbliilemjkjimaaDoor
open Go.RowKit Go.Joins
set_option linter.unusedVariables false
set_option linter.unusedSimpArgs false
theorem indexByte_no {c : UInt8} : ∀ {l : List UInt8}, c ∉ l → Lib.indexByte l c = -1
  | [], _ => rfl
  | b :: l, h => by
    have h1 : (b == c) = false := by rw [beq_eq_false_iff_ne]; exact fun e => h (by rw [e]; exact List.mem_cons_self)
    have h2 := indexByte_no (l := l) (c := c) (fun e => h (List.mem_cons_of_mem _ e))
    rw [Lib.indexByte, h1, h2]
    rfl
theorem pair_cells {w : World} {b o k : Nat} {bs : List UInt8} {p : Pr} (h : BytesAt w (some ⟨b, o, none⟩) bs) (hp : (prs bs)[k]? = some p) : w.cell? ⟨b, o + 2 * k, none⟩ = some (.int .u8 p.1.toNat) ∧ w.cell? ⟨b, o + (2 * k + 1), none⟩ = some (.int .u8 p.2.toNat) := by
  obtain ⟨r, hr⟩ := drop_prs hp
  have hd := BytesAt.drop h (2 * k)
  rw [hr] at hd
  obtain ⟨b1, o1, e1, g1⟩ := hd.get (k := 0) (by simp)
  obtain ⟨b2, o2, e2, g2⟩ := hd.get (k := 1) (by simp)
  cases e1
  cases e2
  exact ⟨g1, by rw [← Nat.add_assoc]; exact g2⟩
theorem isN_tests (a b : UInt8) : isN (a, b) = (((a.toNat : Int) == 128) && ((b.toNat : Int) == 128)) := by rw [byte_eq, byte_eq, isN, Bool.eq_iff_iff]; simp
theorem ret_and {a : Bool} (h : a = true) : Ending.returned (.bool a) = .returned (.bool true) := by rw [h]
set_option maxRecDepth 100000 in
set_option maxHeartbeats 1000000 in
theorem lines_law (f : Int) (A : Option Addr) (n c : Nat) (bs : List UInt8) (d : Bool) (w : World) (h : BytesAt w A bs) (hn : n = bs.length) (hnc : n ≤ c) (hcm : c ≤ maxLen) (hf : -9223372036854775808 ≤ f ∧ f ≤ 9223372036854775807) (hmx : Mx w) :
    Calls Tryd.prog 9 #[strm f A n c, .bool d] w fun e w' => e = .returned (.bool true) ∧ Below w.heap.size w w' := by
  have hm : c ≤ 9223372036854775807 := by simpa [maxLen] using hcm
  have HH := Lib.hid (And.intro h hn)
  have HF := Lib.hid hf
  have HM := Lib.hid hmx
  have HCM := Lib.hid hcm
  clear h hn hf hmx hcm
  unfold strm
  obtain ⟨B, hB⟩ : ∃ B, B = w.heap.size := ⟨_, rfl⟩
  rw [← hB]
  have MX := Lib.hid (fun (w' : World) (hb : Below B w w') => show Mx w' from HM.out.on (by rw [← hB]; exact hb))
  go_enter Tryd.func9, Tryd.ntmps9
  go_wp2_with fail
  rw [← hB]
  generalize hw1 : World.alloc _ _ = w1
  have H := Lib.hid (show Held w1 B [.int .i64 f, .slice A n c] by subst hw1; exact Held.new hB)
  have FB := Lib.hid (show Below B w w1 by subst hw1; subst hB; exact below_one _ _)
  have HX := Lib.hid (show BytesAt w1 A bs from HH.out.1.ext (hB ▸ FB.out))
  clear hw1 hB
  refine (awake_any _ (MX.out _ FB.out)).mono ?_
  rintro e w2 ⟨rfl, hb⟩
  replace FB := Lib.hid (FB.out.trans (hb.mono (Nat.le_of_lt H.out.lt)))
  replace H := Lib.hid (H.out.ext hb)
  replace HX := Lib.hid (HX.out.ext hb)
  clear hb
  obtain ⟨q0, q1, q2, q3⟩ := H.out.pair
  go_wp2_with fail
  refine (few_any f A n c _ hnc HCM.out).mono ?_
  rintro e w3 ⟨rfl, hb⟩
  replace FB := Lib.hid (FB.out.trans (hb.mono (Nat.le_of_lt H.out.lt)))
  replace H := Lib.hid (H.out.ext hb)
  replace HX := Lib.hid (HX.out.ext hb)
  clear hb q0 q1 q2 q3
  obtain ⟨q0, q1, q2, q3⟩ := H.out.pair
  have HX2 := Lib.hid (HX.out.take (min n 120))
  have HL := Lib.hid (show min n 120 = (bs.take (min n 120)).length by have := HH.out.2; simp; omega)
  generalize bs.take (min n 120) = cs at *
  have hk : min n 120 ≤ c ∧ min n 120 ≤ 120 := by omega
  generalize min n 120 = k at *
  obtain ⟨hk1, hk2⟩ := hk
  unfold strm
  go_wp2_with fail
  have r := Lib.hid ((H.out.set 0 (.int .i64 f)).set 1 (.slice A k c))
  have rb := Lib.hid ((FB.out.setCell (p := ⟨B, 0, none⟩) (by simp) (.int .i64 f)).setCell (p := ⟨B, 1, none⟩) (by simp) (.slice A k c))
  have rx := Lib.hid (bytes_other (bytes_other HX2.out H.out (byte_no _ _ _ _) 0 (.int .i64 f)) (H.out.set 0 (.int .i64 f)) (byte_no f A n c) 1 (.slice A k c))
  generalize World.setCell (World.setCell _ _ _) _ _ = w4 at *
  clear q0 q1 q2 q3 H FB HX2 HX HH HM
  obtain ⟨q0, q1, q2, q3⟩ := (show Held w4 B [.int .i64 f, .slice A k c] from r.out).pair
  have hBs : B < w4.heap.size := r.out.lt
  refine (print_any f A k c cs d _ rx.out HL.out hk1 HCM.out).mono ?_
  rintro e w5 ⟨rfl, hb⟩
  have r5 := Lib.hid (r.out.ext hb)
  have rb5 := Lib.hid (rb.out.trans (hb.mono (Nat.le_of_lt hBs)))
  have rx5 := Lib.hid (BytesAt.ext rx.out hb)
  have HS := Lib.hid (print_short (f := f) (s := cs) (d := d))
  have HLI := Lib.hid (lines (f := f) (s := cs) (d := d))
  clear hb q0 q1 q2 q3 r rb rx
  generalize printV f cs d = R at *
  obtain ⟨T, x⟩ := R
  unfold prB at *
  simp only [] at HS HLI
  by_cases hx : x = 0
  · have hxb : (x != 0) = false := by simp [hx]
    obtain ⟨o, h1, h2, h3, h4⟩ := HLI.out hx
    rw [← h1] at h2 h3 h4
    have HCN := Lib.hid h2
    have HPF := Lib.hid (show Lib.hasPrefix T [83, 67, 67, 32, 49, 46, 48, 10] = true by
      obtain ⟨v, hv⟩ := h3
      rw [Lib.hasPrefix, List.isPrefixOf_iff_prefix]
      exact ⟨v, hv.symm⟩)
    have HSF := Lib.hid (show Lib.hasSuffix T [10] = true by
      rw [Lib.hasSuffix, List.isSuffixOf_iff_suffix]
      exact ⟨headL ++ o, by rw [h1]; simp⟩)
    have HIX := Lib.hid (show d = false → decide (0 ≤ Lib.indexByte T 59) = false from fun e => by rw [indexByte_no (h4 e)]; rfl)
    have HTS := Lib.hid (show (⟨T.toArray⟩ : ByteArray).size ≤ 1000000 by
      have h1 := HS.out
      have h2 := nn_len (prs cs)
      rw [prs_len, ← HL.out] at h2
      show T.toArray.size ≤ _
      simp only [List.size_toArray]
      omega)
    clear hx HLI h1 h2 h3 h4 HS
    obtain ⟨q0, q1, q2, q3⟩ := r5.out.pair
    go_wp2_with fail
    go_loop [7, 8, 9] (fun r b i => ∃ (j n : Nat) (bb : Bool), 2 * j ≤ k + 1 ∧ i = .int .i64 (2 * (j : Int)) ∧ r = .int .i64 n ∧ b = .bool bb ∧ n ≤ j ∧ Hid (runsV true (prs cs) = n + runsV bb ((prs cs).drop j))) (fun _ _ i => k + 2 - (intOf i).toNat)
    case atStart => exact ⟨0, 0, true, by omega, rfl, rfl, rfl, by omega, Lib.hid (by simp)⟩
    case round =>
      obtain ⟨j, n, bb, hj, rfl, rfl, rfl, hnj, HR⟩ := hrel
      by_cases hlt : 2 * j + 1 < k
      · obtain ⟨p, hp⟩ : ∃ p, (prs cs)[j]? = some p := ⟨_, List.getElem?_eq_getElem (by rw [prs_len, ← HL.out]; omega)⟩
        obtain ⟨bA, oA, rfl, -⟩ := rx5.out.get (k := 0) (by rw [← HL.out]; omega)
        obtain ⟨c0, c1⟩ := pair_cells rx5.out hp
        have HDR := Lib.hid (show (prs cs).drop j = p :: (prs cs).drop (j + 1) by
          obtain ⟨g1, g2⟩ := List.getElem?_eq_some_iff.1 hp
          rw [List.drop_eq_getElem_cons g1, g2])
        have i1 : (2 * (j : Int)).toNat = 2 * j := by omega
        have i2 : (2 * (j : Int) + 1).toNat = 2 * j + 1 := by omega
        have g0 : (0 : Int) ≤ 2 * (j : Int) := by omega
        have g3 : (0 : Int) ≤ 2 * (j : Int) + 1 := by omega
        have g1 : (2 * (j : Int) + 1) < (k : Int) := by omega
        have g2 : 2 * (j : Int) < (k : Int) := by omega
        have g5 : 2 * (j : Int) + 2 ≤ 200 := by omega
        have g6 : (n : Int) + 1 ≤ 200 := by omega
        obtain ⟨pa, pb⟩ := p
        simp only [] at c0 c1
        clear hp
        have ha := pa.toNat_lt
        have hb := pb.toNat_lt
        have HV0 := isN_tests pa pb
        cases hx : ((pa.toNat : Int) == 128)
        · have HV := Lib.hid (show isN (pa, pb) = false by rw [HV0, hx]; rfl)
          clear HV0
          cases bb
          · go_wp2_with fail
            go_round
            case rel => exact ⟨j + 1, n, false, by omega, by first | go_num | (congr 1; omega), by first | rfl | go_num, rfl, by omega, Lib.hid (by rw [HR.out, HDR.out, runsV, HV.out]; simp; try omega)⟩
            case measure => simp [intOf]; omega
          · go_wp2_with fail
            go_round
            case rel => exact ⟨j + 1, n + 1, false, by omega, by first | go_num | (congr 1; omega), by first | rfl | go_num, rfl, by omega, Lib.hid (by rw [HR.out, HDR.out, runsV, HV.out]; simp; try omega)⟩
            case measure => simp [intOf]; omega
        · cases hy : ((pb.toNat : Int) == 128)
          · have HV := Lib.hid (show isN (pa, pb) = false by rw [HV0, hx, hy]; rfl)
            clear HV0
            cases bb
            · go_wp2_with fail
              go_round
              case rel => exact ⟨j + 1, n, false, by omega, by first | go_num | (congr 1; omega), by first | rfl | go_num, rfl, by omega, Lib.hid (by rw [HR.out, HDR.out, runsV, HV.out]; simp; try omega)⟩
              case measure => simp [intOf]; omega
            · go_wp2_with fail
              go_round
              case rel => exact ⟨j + 1, n + 1, false, by omega, by first | go_num | (congr 1; omega), by first | rfl | go_num, rfl, by omega, Lib.hid (by rw [HR.out, HDR.out, runsV, HV.out]; simp; try omega)⟩
              case measure => simp [intOf]; omega
          · have HV := Lib.hid (show isN (pa, pb) = true by rw [HV0, hx, hy]; rfl)
            clear HV0
            cases bb
            · go_wp2_with fail
              go_round
              case rel => exact ⟨j + 1, n, true, by omega, by first | go_num | (congr 1; omega), by first | rfl | go_num, rfl, by omega, Lib.hid (by rw [HR.out, HDR.out, runsV, HV.out]; simp; try omega)⟩
              case measure => simp [intOf]; omega
            · go_wp2_with fail
              go_round
              case rel => exact ⟨j + 1, n, true, by omega, by first | go_num | (congr 1; omega), by first | rfl | go_num, rfl, by omega, Lib.hid (by rw [HR.out, HDR.out, runsV, HV.out]; simp; try omega)⟩
              case measure => simp [intOf]; omega
      · have g1 : ¬ (2 * (j : Int) + 1) < (k : Int) := by omega
        have g5 : 2 * (j : Int) + 1 ≤ 200 := by omega
        have g6 : (n : Int) + 1 ≤ 200 := by omega
        have HC2 := Lib.hid (show ((Lib.countByte T 10 : Nat) : Int) = (n : Int) + 1 by
          have h1 := HR.out
          rw [List.drop_of_length_le (by rw [prs_len, ← HL.out]; omega), runsV] at h1
          show ((T.count 10 : Nat) : Int) = _
          rw [HCN.out]
          omega)
        clear hlt HR
        cases d
        · have HI := HIX.out rfl
          go_wp2_with (first
            | (go_at_call 22; refine (Tryd.strings_Count_one ⟨T.toArray⟩ 10 _).mono ?_; rintro e w6 ⟨rfl, rfl⟩; rw [HC2.out])
            | (go_at_call 23; refine (Tryd.strings_HasPrefix ⟨T.toArray⟩ ⟨#[83, 67, 67, 32, 49, 46, 48, 10]⟩ _).mono ?_; rintro e w6 ⟨rfl, rfl⟩; rw [show Lib.hasPrefix (⟨T.toArray⟩ : ByteArray).data.toList (⟨#[83, 67, 67, 32, 49, 46, 48, 10]⟩ : ByteArray).data.toList = true from HPF.out])
            | (go_at_call 24; refine (Tryd.strings_HasSuffix ⟨T.toArray⟩ ⟨#[10]⟩ _ (by have := HTS.out; omega)).mono ?_; rintro e w6 ⟨rfl, rfl⟩; rw [show Lib.hasSuffix (⟨T.toArray⟩ : ByteArray).data.toList (⟨#[10]⟩ : ByteArray).data.toList = true from HSF.out])
            | (go_at_call 25; refine (Tryd.strings_Contains_one ⟨T.toArray⟩ 59 _).mono ?_; rintro e w6 ⟨rfl, rfl⟩; rw [show decide (0 ≤ Lib.indexByte (⟨T.toArray⟩ : ByteArray).data.toList 59) = false from HI]))
          go_ret
          exact ⟨rfl, rb5.out⟩
        · go_wp2_with (first
            | (go_at_call 22; refine (Tryd.strings_Count_one ⟨T.toArray⟩ 10 _).mono ?_; rintro e w6 ⟨rfl, rfl⟩; rw [HC2.out])
            | (go_at_call 23; refine (Tryd.strings_HasPrefix ⟨T.toArray⟩ ⟨#[83, 67, 67, 32, 49, 46, 48, 10]⟩ _).mono ?_; rintro e w6 ⟨rfl, rfl⟩; rw [show Lib.hasPrefix (⟨T.toArray⟩ : ByteArray).data.toList (⟨#[83, 67, 67, 32, 49, 46, 48, 10]⟩ : ByteArray).data.toList = true from HPF.out])
            | (go_at_call 24; refine (Tryd.strings_HasSuffix ⟨T.toArray⟩ ⟨#[10]⟩ _ (by have := HTS.out; omega)).mono ?_; rintro e w6 ⟨rfl, rfl⟩; rw [show Lib.hasSuffix (⟨T.toArray⟩ : ByteArray).data.toList (⟨#[10]⟩ : ByteArray).data.toList = true from HSF.out]))
          go_ret
          exact ⟨rfl, rb5.out⟩
  · have hxb : (x != 0) = true := by simpa using hx
    clear hx HLI
    go_wp2_with fail
    go_ret
    exact ⟨rfl, rb5.out⟩
end Go.Proofs.YtbliilemjkjimaaDoor
