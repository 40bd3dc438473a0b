/-
  The contract of the law SccPrints. Its conditions are its hypotheses.
-/
import Derived.Test.YtbliilemjkjimaaDoorCm
import Derived.Test.YtbliilemjkjimaaDoorLN
import Derived.Test.YtbliilemjkjimaaDoorSy
import Derived.Test.YtbliilemjkjimaaDoorDb
namespace Go.Proofs.YtbliilemjkjimaaDoor
open Go.RowKit Go.Joins
set_option linter.unusedVariables false
set_option linter.unusedSimpArgs false
set_option maxHeartbeats 400000 in
theorem prints_law (f : Int) (A : Option Addr) (n c : Nat) (bs : List UInt8) (d : Bool) (w : World) (h : BytesAt w A bs) (hn : n = bs.length) (hnc : n ≤ c) (hcm : c ≤ maxLen) (hf : -9223372036854775808 ≤ f ∧ f ≤ 9223372036854775807) (hmx : Mx w) :
    Calls Tryd.prog 4 #[strm f A n c, .bool d] w fun e w' => e = .returned (.bool true) ∧ Below w.heap.size w w' := by
  have hm : c ≤ 9223372036854775807 := by simpa [maxLen] using hcm
  have HH := Lib.hid (And.intro h hn)
  have HF := Lib.hid hf
  have HM := Lib.hid hmx
  have HCM := Lib.hid hcm
  clear h hn hf hmx hcm
  unfold strm
  obtain ⟨B, hB⟩ : ∃ B, B = w.heap.size := ⟨_, rfl⟩
  rw [← hB]
  have MX := Lib.hid (fun (w' : World) (hb : Below B w w') => show Mx w' from HM.out.on (by rw [← hB]; exact hb))
  go_enter Tryd.func4, Tryd.ntmps4
  go_wp2_with fail
  rw [← hB]
  generalize hw1 : World.alloc _ _ = w1
  have H := Lib.hid (show Held w1 B [.int .i64 f, .slice A n c] by subst hw1; exact Held.new hB)
  have FB := Lib.hid (show Below B w w1 by subst hw1; subst hB; exact below_one _ _)
  have HX := Lib.hid (show BytesAt w1 A bs from HH.out.1.ext (hB ▸ FB.out))
  clear hw1 hB
  refine (awake_any _ (MX.out _ FB.out)).mono ?_
  rintro e w2 ⟨rfl, hb⟩
  replace FB := Lib.hid (FB.out.trans (hb.mono (Nat.le_of_lt H.out.lt)))
  replace H := Lib.hid (H.out.ext hb)
  replace HX := Lib.hid (HX.out.ext hb)
  clear hb
  obtain ⟨q0, q1, q2, q3⟩ := H.out.pair
  go_wp2_with fail
  refine (few_any f A n c _ hnc HCM.out).mono ?_
  rintro e w3 ⟨rfl, hb⟩
  replace FB := Lib.hid (FB.out.trans (hb.mono (Nat.le_of_lt H.out.lt)))
  replace H := Lib.hid (H.out.ext hb)
  replace HX := Lib.hid (HX.out.ext hb)
  clear hb q0 q1 q2 q3
  obtain ⟨q0, q1, q2, q3⟩ := H.out.pair
  have HX2 := Lib.hid (HX.out.take (min n 120))
  have HL := Lib.hid (show min n 120 = (bs.take (min n 120)).length by have := HH.out.2; simp; omega)
  generalize bs.take (min n 120) = cs at *
  have hk : min n 120 ≤ c ∧ min n 120 ≤ 120 := by omega
  generalize min n 120 = k at *
  obtain ⟨hk1, hk2⟩ := hk
  unfold strm
  go_wp2_with fail
  have r := Lib.hid ((H.out.set 0 (.int .i64 f)).set 1 (.slice A k c))
  have rb := Lib.hid ((FB.out.setCell (p := ⟨B, 0, none⟩) (by simp) (.int .i64 f)).setCell (p := ⟨B, 1, none⟩) (by simp) (.slice A k c))
  have rx := Lib.hid (bytes_other (bytes_other HX2.out H.out (byte_no _ _ _ _) 0 (.int .i64 f)) (H.out.set 0 (.int .i64 f)) (byte_no f A n c) 1 (.slice A k c))
  generalize World.setCell (World.setCell _ _ _) _ _ = w4 at *
  clear q0 q1 q2 q3 H FB HX2 HX HH HM
  obtain ⟨q0, q1, q2, q3⟩ := (show Held w4 B [.int .i64 f, .slice A k c] from r.out).pair
  have hBs : B < w4.heap.size := r.out.lt
  refine (print_any f A k c cs d _ rx.out HL.out hk1 HCM.out).mono ?_
  rintro e w5 ⟨rfl, hb⟩
  have r5 := Lib.hid (r.out.ext hb)
  have rb5 := Lib.hid (rb.out.trans (hb.mono (Nat.le_of_lt hBs)))
  have rx5 := Lib.hid (BytesAt.ext rx.out hb)
  have z5 : B ≤ w5.heap.size := Nat.le_of_lt r5.out.lt
  clear hb q0 q1 q2 q3 r rb rx
  have HPR := Lib.hid (fun (W : World) (hW : BytesAt W A cs) => printr_any f A k c cs d W hW HL.out hk1 HCM.out)
  generalize printV f cs d = R at *
  obtain ⟨T, x⟩ := R
  unfold prB at *
  obtain ⟨q0, q1, q2, q3⟩ := r5.out.pair
  go_wp2_with fail
  refine (HPR.out _ rx5.out).mono ?_
  rintro e w6 ⟨rfl, hb⟩
  have rb6 := Lib.hid (rb5.out.trans (hb.mono z5))
  clear hb q0 q1 q2 q3
  go_wp2_with fail
  go_ret
  exact ⟨by simp, rb6.out⟩
end Go.Proofs.YtbliilemjkjimaaDoor
