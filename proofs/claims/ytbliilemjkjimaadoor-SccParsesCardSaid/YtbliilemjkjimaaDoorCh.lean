/-
  The contract of Print of layer 31. Its conditions are its hypotheses.
-/
import Derived.Test.YtbliilemjkjimaaDoorCb
import Derived.Test.YtbliilemjkjimaaDoorCg
import Derived.Test.YtbliilemjkjimaaDoorSv
namespace Go.Proofs.YtbliilemjkjimaaDoor
open Go.RowKit Go.Joins
set_option linter.unusedVariables false
set_option linter.unusedSimpArgs false
theorem BldI.ext {B b : Nat} {l : List UInt8} {w w' : World} (h : BldI B b l w) (hb : Below w.heap.size w w') : BldI B b l w' := by
  rcases h with h | h
  · obtain ⟨h1, v, h2, h3, h4⟩ := h
    exact .inl ⟨h1, v, (hb.block b (Array.getElem?_eq_some_iff.1 h2).1).trans h2, ownsRow_below h3 hb (Nat.le_refl _), h4⟩
  · obtain ⟨h1, v, h2, h3, h4⟩ := h
    exact .inr ⟨h1, v, (hb.block b (Array.getElem?_eq_some_iff.1 h2).1).trans h2, ownsRow_below h3 hb (Nat.le_refl _), h4⟩
theorem BldI.lt {B b : Nat} {l : List UInt8} {w : World} (h : BldI B b l w) : b < w.heap.size := by rcases h with h | h <;> exact h.lt
def prB (r : List UInt8 × Int) : Value := .tuple #[.string ⟨r.1.toArray⟩, .int .i64 r.2]
theorem fstV_norm {f : Int} {l : List Pr} (h0 : 0 ≤ f) (h1 : f ≤ 5184000) (h2 : l.length ≤ 200001) : fstV f l = (normV f l).1 := by
  unfold fstV normV
  have := lead_mid_le l
  split
  · rfl
  · have : lead l ≤ 200001 := by omega
    unfold wrap64
    simp only []
    omega
theorem normV_bd {f : Int} {l : List Pr} (h0 : 0 ≤ f) (h1 : f ≤ 5184000) (h2 : l.length ≤ 200001) : 0 ≤ (normV f l).1 ∧ (normV f l).1 ≤ 5400000 := by
  have := lead_mid_le l
  unfold normV
  split
  · simp
  · simp only []
    omega
theorem normV_2 (f : Int) (l : List Pr) : (normV f l).2 = mid l := by
  unfold normV
  split
  · rename_i h; simp [h]
  · rfl
theorem chkS_zero {f : Int} {n : Nat} (h : chkS f n = 0) : n % 2 = 0 ∧ n ≤ 400000 ∧ 0 ≤ f ∧ f ≤ 5184000 := by
  unfold chkS at h
  split at h
  · omega
  · split at h
    · omega
    · split at h
      · omega
      · omega
theorem print_bad (f : Int) (A : Option Addr) (n c : Nat) (bs : List UInt8) (d : Bool) (w : World) (hn : n = bs.length) (hl : n ≤ 9223372036854775807) (hc : chkS f n ≠ 0) :
    Calls Tryd.prog 17 #[strm f A n c, .bool d] w fun e w' => e = .returned (prB (printV f bs d)) ∧ Below w.heap.size w w' := by
  have e : printV f bs d = ([], chkS f n) := by rw [printV, ← hn, if_pos hc]
  rw [e]
  have hcb : (chkS f n != 0) = true := by simpa using hc
  have HC := Lib.hid (check_any f A n c)
  unfold strm prB at *
  clear e hc hn
  generalize chkS f n = r at *
  go_enter Tryd.func17, Tryd.ntmps17
  go_wp2_with fail
  refine (HC.out _ hl).mono ?_
  rintro e w1 ⟨rfl, hb⟩
  have HB := Lib.hid (bthen (below_one w _) hb)
  clear hb
  go_wp2_with fail
  go_ret2
  exact ⟨rfl, HB.out⟩
theorem print_late (f : Int) (A : Option Addr) (n c : Nat) (bs : List UInt8) (d : Bool) (w : World) (h : BytesAt w A bs) (hn : n = bs.length) (hnc : n ≤ c) (hcm : c ≤ maxLen) (hc : chkS f n = 0) (hla : late (normV f (prs bs)).1 (mid (prs bs)) d) :
    Calls Tryd.prog 17 #[strm f A n c, .bool d] w fun e w' => e = .returned (prB (printV f bs d)) ∧ Below w.heap.size w w' := by
  obtain ⟨z1, z2, z3, z4⟩ := chkS_zero hc
  have e : printV f bs d = ([], 2) := by rw [printV, ← hn, if_neg (by omega), printN, normV_2, if_pos hla]
  rw [e]
  have HF := Lib.hid (fstV_norm (l := prs bs) z3 z4 (by rw [prs_len, ← hn]; omega))
  have HM := Lib.hid (And.intro hla.1 hla.2)
  have hml := lead_mid_le (prs bs)
  rw [prs_len, ← hn] at hml
  have HC := Lib.hid (check_any f A n c)
  have HC0 := Lib.hid hc
  have HH := Lib.hid (And.intro h hn)
  unfold prB
  clear e hc hn h hla
  obtain ⟨B, hB⟩ : ∃ B, B = w.heap.size := ⟨_, rfl⟩
  rw [← hB]
  unfold strm at *
  go_enter Tryd.func17, Tryd.ntmps17
  go_wp2_with fail
  refine (HC.out _ (by omega)).mono ?_
  rintro e w1 ⟨rfl, hb⟩
  rw [HC0.out, ← hB]
  have H := Lib.hid ((show Held (w.alloc (.cells #[.int .i64 f, .slice A n c] 24)) B [.int .i64 f, .slice A n c] from Held.new hB).ext hb)
  have FB := Lib.hid (show Below B w w1 by subst hB; exact bthen (below_one _ _) hb)
  have HX := Lib.hid (show BytesAt w1 A bs from HH.out.1.ext (hB ▸ FB.out))
  clear hb hB
  obtain ⟨q0, q1, q2, q3⟩ := H.out.pair
  go_wp2_with fail
  refine (norm_any f A n c bs _ HX.out HH.out.2 hnc hcm (by omega) ⟨by omega, by omega⟩).mono ?_
  rintro e w2 ⟨⟨A2, c2, rfl, hx, hc2, hcm2⟩, hb⟩
  rw [HF.out]
  replace FB := Lib.hid (FB.out.trans (hb.mono (Nat.le_of_lt H.out.lt)))
  replace H := Lib.hid (H.out.ext hb)
  clear hb q0 q1 q2 q3 hx
  obtain ⟨q0, q1, q2, q3⟩ := H.out.pair
  obtain ⟨F1, F2⟩ := normV_bd (f := f) (l := prs bs) z3 z4 (by rw [prs_len, ← HH.out.2]; omega)
  generalize (normV f (prs bs)).1 = F at *
  generalize hL : (mid (prs bs)).length = L at *
  have HL := Lib.hid hL
  clear hL
  unfold strm
  go_wp2_with fail
  have r := Lib.hid (((H.out).set 0 (.int .i64 F)).set 1 (.slice A2 (2 * L) c2))
  have rb := Lib.hid ((FB.out.setCell (p := ⟨B, 0, none⟩) (by simp) (.int .i64 F)).setCell (p := ⟨B, 1, none⟩) (by simp) (.slice A2 (2 * L) c2))
  generalize World.setCell (World.setCell _ _ _) _ _ = w3 at *
  clear q0 q1 q2 q3
  obtain ⟨q0, q1, q2, q3⟩ := (show Held w3 B [.int .i64 F, .slice A2 (2 * L) c2] from r.out).pair
  have fs : B + 1 ≤ w3.heap.size := r.out.lt
  have fbb := rb.out
  obtain ⟨D, hD⟩ : ∃ D, D = dayV d := ⟨_, rfl⟩
  have HD := Lib.hid hD.symm
  rw [← hD] at HM
  have hL0 : 0 < L := by rw [← HL.out]; exact List.length_pos_iff.2 HM.out.1
  have t1 : decide ((0 : Int) < (L : Int)) = true := by simp; omega
  have t2 : decide (D ≤ F + (L : Int) - 1) = true := by have := HM.out.2; simpa using this
  have s1 : IntKind.i64.wrap (F + (L : Int)) = F + (L : Int) := IntWalk.i64_in _ (by omega)
  have s2 : IntKind.i64.wrap (F + (L : Int) - 1) = F + (L : Int) - 1 := IntWalk.i64_in _ (by omega)
  clear hD
  go_region_held3 (fun w' => w'.cell? ⟨B, 0, none⟩ = some (.int .i64 F) ∧ Below B w w' ∧ B + 1 ≤ w'.heap.size)
    ((refine ⟨?_, ?_, ?_⟩ <;> first
        | assumption
        | exact Below.drew ‹_›
        | exact (hb.cell (Nat.lt_of_lt_of_le (Nat.lt_succ_self _) hks)).trans hk0
        | exact hkb.trans (hb.mono (Nat.le_of_succ_le hks))
        | exact Nat.le_trans hks hb.size))
    ((go_at_call 28; obtain ⟨hk0, hkb, hks⟩ := ‹_ ∧ Below B w _ ∧ _›; refine (day_any _ _).mono ?_; rintro e w' ⟨rfl, hb⟩; rw [HD.out]))
  all_goals
    obtain ⟨_, hkb, _⟩ := ‹_ ∧ Below B w _ ∧ _›
    have HKB := Lib.hid hkb
    clear s1 s2
    go_wp2_with fail
    go_ret2
    exact ⟨rfl, HKB.out⟩
end Go.Proofs.YtbliilemjkjimaaDoor
