/-
  The contract of the law SccAgain. Its conditions are its hypotheses.
-/
import Derived.Test.YtbliilemjkjimaaDoorCm
import Derived.Test.YtbliilemjkjimaaDoorLN
import Derived.Test.YtbliilemjkjimaaDoorSy
import Derived.Test.YtbliilemjkjimaaDoorLB
namespace Go.Proofs.YtbliilemjkjimaaDoor
open Go.RowKit Go.Joins
set_option linter.unusedVariables false
set_option linter.unusedSimpArgs false
theorem slice_up {s : ByteArray} {x : Int} {k : Nat} (hx : x = k) (hk : k ≤ s.size) (w : World) :
    (Instr.slice 9 (.string s) none (some (.int .i64 x)) none).run Tryd.prog w = .ok (.string (s.extract 0 k)) w := by
  subst hx
  simp [go_sem]
  intro h
  omega
set_option maxHeartbeats 1000000 in
theorem again_law (s : ByteArray) (d : Bool) (w : World) (hs : s.size ≤ maxLen) (hmx : Mx w) :
    Calls Tryd.prog 7 #[.string s, .bool d] w fun e w' => e = .returned (.bool true) ∧ Below w.heap.size w w' := by
  have hm : s.size ≤ 9223372036854775807 := by simpa [maxLen] using hs
  have hmin : (min (s.size : Int) 600) = ((min s.size 600 : Nat) : Int) := by omega
  have hmt : (min (s.size : Int) 600).toNat = min s.size 600 := by omega
  have HTS := Lib.hid (show (s.extract 0 (min s.size 600)).size ≤ 600 by simp; omega)
  have HM := Lib.hid hmx
  clear hs hmx
  obtain ⟨B, hB⟩ : ∃ B, B = w.heap.size := ⟨_, rfl⟩
  rw [← hB]
  have MX := Lib.hid (fun (w' : World) (hb : Below B w w') => show Mx w' from HM.out.on (by rw [← hB]; exact hb))
  go_enter Tryd.func7, Tryd.ntmps7
  go_wp2_with fail
  refine (awake_any _ HM.out).mono ?_
  rintro e w2 ⟨rfl, hb⟩
  have FB := Lib.hid (show Below B w w2 by rw [hB]; exact hb)
  have HB2 := Lib.hid (show B ≤ w2.heap.size by rw [hB]; exact hb.size)
  clear hb hB
  go_wp2_with fail
  generalize s.extract 0 (min s.size 600) = t at *
  have hts := HTS.out
  refine (parse31_any t _ (by omega) (MX.out _ FB.out)).mono ?_
  rintro e w3 ⟨h1, hb⟩
  have FB3 := Lib.hid (FB.out.trans (hb.mono HB2.out))
  have HB3 := Lib.hid (Nat.le_trans HB2.out hb.size)
  clear hb
  cases hv : parseV t.data.toList with
  | error x =>
    rw [hv] at h1
    obtain ⟨g, rfl, -⟩ := h1
    unfold strm
    clear hv
    go_wp2_with fail
    go_ret
    exact ⟨rfl, FB3.out.alloc HB3.out _⟩
  | ok q =>
    obtain ⟨F, l⟩ := q
    rw [hv] at h1
    obtain ⟨A5, c5, rfl, hx5, hc5, hm5⟩ := h1
    obtain ⟨g1, g2⟩ := again hv d
    have HSH := Lib.hid (again_short (d := d) hv (by simpa using hts))
    rw [flat_len] at g1
    have HC := Lib.hid (And.intro g1 g2)
    have HPF := Lib.hid (parse_fits hv)
    have hlen := HPF.out.len
    have hlo : (0 : Int) ≤ F ∧ F ≤ 5400000 := by have h1 := HPF.out.low; have h2 := HPF.out.high; omega
    have K3 := Lib.hid hx5
    have HCM := Lib.hid (And.intro hc5 hm5)
    clear hv hx5 hc5 hm5 g1 g2
    unfold strm
    obtain ⟨B5, hB5⟩ : ∃ B5, B5 = w3.heap.size := ⟨_, rfl⟩
    go_wp2_with fail
    rw [← hB5]
    generalize hw4 : World.alloc _ _ = w4
    have s4 := Lib.hid (show Held w4 B5 [.int .i64 F, .slice A5 (2 * l.length) c5] by subst hw4; exact Held.new hB5)
    have FB4 := Lib.hid (show Below B w w4 by subst hw4; exact FB3.out.alloc HB3.out _)
    have K4 := Lib.hid (show BytesAt w4 A5 (flat l) by subst hw4; exact K3.out.ext (below_one _ _))
    have HB4 := Lib.hid (show B ≤ w4.heap.size by subst hw4; simp; have := HB3.out; omega)
    clear hw4 hB5
    refine (check_any F A5 (2 * l.length) c5 _ (by omega)).mono ?_
    rintro e w5 ⟨rfl, hb⟩
    rw [HC.out.1]
    have s5 := Lib.hid (s4.out.ext hb)
    have FB5 := Lib.hid (FB4.out.trans (hb.mono HB4.out))
    have K5 := Lib.hid (K4.out.ext hb)
    have HB5 := Lib.hid (Nat.le_trans HB4.out hb.size)
    clear hb
    obtain ⟨q0, q1, q2, q3⟩ := s5.out.pair
    go_wp2_with fail
    refine (print_any F A5 (2 * l.length) c5 (flat l) d _ K5.out (flat_len _).symm HCM.out.1 HCM.out.2).mono ?_
    rintro e w6 ⟨rfl, hb⟩
    have s6 := Lib.hid (s5.out.ext hb)
    have FB6 := Lib.hid (FB5.out.trans (hb.mono HB5.out))
    have K6 := Lib.hid (K5.out.ext hb)
    have HB6 := Lib.hid (Nat.le_trans HB5.out hb.size)
    clear hb q0 q1 q2 q3
    unfold prB
    have HG := HC.out.2
    clear HC
    generalize printV F (flat l) d = R at *
    obtain ⟨T, x⟩ := R
    simp only [] at HG HSH
    rcases HG with rfl | ⟨rfl, hT⟩
    · go_wp2_with fail
      go_ret
      exact ⟨rfl, FB6.out⟩
    · have HT := Lib.hid hT
      have HTL := Lib.hid (show (⟨T.toArray⟩ : ByteArray).size ≤ 1000000 by
        have := HSH.out
        show T.toArray.size ≤ _
        simp only [List.size_toArray]
        omega)
      clear hT
      go_wp2_with fail
      refine (parse31_any ⟨T.toArray⟩ _ HTL.out (MX.out _ FB6.out)).mono ?_
      rintro e w7 ⟨h1, hb⟩
      rw [show ((⟨T.toArray⟩ : ByteArray).data.toList) = T from rfl, HT.out] at h1
      obtain ⟨A7, c7, rfl, hx7, hc7, hm7⟩ := h1
      have s7 := Lib.hid (s6.out.ext hb)
      have FB7 := Lib.hid (FB6.out.trans (hb.mono HB6.out))
      have K7 := Lib.hid (K6.out.ext hb)
      have J7 := Lib.hid hx7
      have HB7 := Lib.hid (Nat.le_trans HB6.out hb.size)
      unfold strm
      clear hb hx7 hc7 hm7
      have za0 : ∀ o, (w7.alloc o).cell? ⟨B5, 0, none⟩ = some (.int .i64 F) := fun o => (s7.out.alloc o).cell 0
      have za1 : ∀ o, (w7.alloc o).cell? ⟨B5, 1, none⟩ = some (.slice A5 (2 * l.length) c5) := fun o => (s7.out.alloc o).cell 1
      have c1 := fun o => conv_bytes (K7.out.ext (below_one w7 o)) (2 * l.length) c5 (flat_len _).symm
      have c2 := fun o => conv_bytes (J7.out.ext (below_one w7 o)) (2 * l.length) c7 (flat_len _).symm
      go_wp2_with fail
      go_ret
      exact ⟨by simp, FB7.out.alloc HB7.out _⟩
end Go.Proofs.YtbliilemjkjimaaDoor
