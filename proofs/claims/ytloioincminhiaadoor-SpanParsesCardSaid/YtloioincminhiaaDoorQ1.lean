/-
  The contract of Cut in the reference. Its conditions are its hypotheses.
-/
import Derived.Test.YtloioincminhiaaDoorP2
namespace Go.Proofs.YtloioincminhiaaDoor
open Go.RowKit Go.Joins
set_option linter.unusedVariables false
set_option linter.unusedSimpArgs false
theorem cutC_at {c : UInt8} {s : List UInt8} {k : Nat} (hk : s[k]? = some c) (hn : c ∉ s.take k) : cutC c s = (s.take k, s.drop (k + 1)) ∧ c ∈ s := by
  have hl := (List.getElem?_eq_some_iff.1 hk).1
  have he := (List.getElem?_eq_some_iff.1 hk).2
  have e : s = s.take k ++ c :: s.drop (k + 1) := by
    rw [← he, ← List.drop_eq_getElem_cons hl, List.take_append_drop]
  refine ⟨?_, List.mem_of_getElem? hk⟩
  conv => lhs; rw [e]
  exact cutC_cut hn
theorem ext_left (s : List UInt8) (k : Nat) : (sB s).extract 0 k = sB (s.take k) := ByteArray.ext (by simp [sB])
theorem ext_right (s : List UInt8) (k : Nat) : (sB s).extract k s.length = sB (s.drop k) := ByteArray.ext (by
  simp [sB]
  rw [List.take_of_length_le (by simp)])
theorem byte_at {s : List UInt8} {k : Nat} (hk : k < (sB s).size) {b : UInt8} (hb : s[k]? = some b) : (sB s)[k] = b := by
  have := (List.getElem?_eq_some_iff.1 hb).2
  exact this
set_option maxHeartbeats 1000000 in
theorem cutr_any (s : List UInt8) (c : UInt8) (w : World) (hs : s.length ≤ 100000) :
    Calls Tryd.prog 50 #[.string (sB s), .int .u8 c.toNat] w fun e w' => e = .returned (.tuple #[.string (sB (cutC c s).1), .string (sB (cutC c s).2), .bool (decide (c ∈ s))]) ∧ Below w.heap.size w w' := by
  obtain ⟨R, hR⟩ : ∃ R, R = ((cutC c s).1, (cutC c s).2, decide (c ∈ s)) := ⟨_, rfl⟩
  have HR := Lib.hid hR
  rw [show (cutC c s).1 = R.1 by rw [hR], show (cutC c s).2 = R.2.1 by rw [hR], show decide (c ∈ s) = R.2.2 by rw [hR]]
  have hz := sB_size s
  clear hR
  go_enter Tryd.func50, Tryd.ntmps50
  go_wp2_with fail
  go_loopw [7] (fun i wr => ∃ k : Nat, k ≤ s.length ∧ i = .int .i64 k ∧ Hid (c ∉ s.take k) ∧ Hid (Below w.heap.size w wr)) (fun i _ => s.length - (intOf i).toNat)
  case atStart => exact ⟨0, by omega, rfl, Lib.hid (by simp), Lib.hid (Below.refl _ _)⟩
  case round =>
    obtain ⟨k, hk, rfl, HK, G⟩ := hrel
    by_cases hlt : k < s.length
    · have hks : k < (sB s).size := by omega
      have hki : (k : Int) < ((sB s).size : Int) := by omega
      obtain ⟨b, hb⟩ : ∃ b, s[k]? = some b := ⟨_, List.getElem?_eq_getElem hlt⟩
      have hbt := byte_at hks hb
      have HBB := Lib.hid hb
      have HZ := Lib.hid hz
      have hw1 : IntKind.i64.wrap ((k : Int) + 1) = (k : Int) + 1 := by rw [IntKind.wrap_i64]; omega
      have hk1 : (k : Int) + 1 ≤ ((sB s).size : Int) := by omega
      clear hb
      by_cases hc : b = c
      · have hcut := cutC_at (hc ▸ HBB.out) HK.out
        obtain rfl : R = (s.take k, s.drop (k + 1), true) := by rw [HR.out, hcut.1]; simp [hcut.2]
        have t1 : ((b.toNat : Int) == (c.toNat : Int)) = true := by rw [hc]; simp
        have HXL := Lib.hid (ext_left s k)
        have HXR := Lib.hid (show (sB s).extract (k + 1) (sB s).size = sB (s.drop (k + 1)) by rw [HZ.out]; exact ext_right s (k + 1))
        clear hz hcut hc
        go_wp2_with fail
        go_quiet (fail)
        go_wp2_with fail
        go_ret3
        refine ⟨?_, below_drewN G.out _⟩
        rw [← HXL.out, ← HXR.out]
        rfl
      · have t1 : ((b.toNat : Int) == (c.toNat : Int)) = false := by
          rw [beq_eq_false_iff_ne]
          intro e
          exact hc (UInt8.toNat_inj.1 (by omega))
        go_wp2_with fail
        go_roundw
        case rel => exact ⟨k + 1, by omega, by go_num, Lib.hid (by
          rw [List.take_add_one, HBB.out]
          intro h
          rcases List.mem_append.1 h with h | h
          · exact HK.out h
          · simp at h
            exact hc h.symm), G⟩
        case measure => simp [intOf]; omega
    · obtain rfl : k = s.length := by omega
      have hn : c ∉ s := by have := HK.out; rw [List.take_length] at this; exact this
      obtain rfl : R = (s, [], false) := by rw [HR.out, cutC_no hn]; simp [hn]
      clear hlt
      go_wp2_with fail
      go_ret3
      exact ⟨rfl, G.out⟩
end Go.Proofs.YtloioincminhiaaDoor
