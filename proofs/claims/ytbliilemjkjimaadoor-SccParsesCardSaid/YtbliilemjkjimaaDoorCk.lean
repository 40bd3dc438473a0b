/-
  The contract of line of layer 31. Its conditions are its hypotheses.
-/
import Derived.Test.YtbliilemjkjimaaDoorCj
import Derived.Test.YtbliilemjkjimaaDoorCd
import Derived.Test.YtbliilemjkjimaaDoorSw
import Derived.Deep.RegionHeld3
import Derived.Deep.AppendLies
import Derived.Deep.DeepCutAuto
namespace Go.Proofs.YtbliilemjkjimaaDoor
open Go.RowKit Go.Joins
set_option linter.unusedVariables false
set_option linter.unusedSimpArgs false
theorem slice_str {s : ByteArray} {x : Int} {k : Nat} (hx : x = k) (hk : k ≤ s.size) (w : World) :
    (Instr.slice 9 (.string s) (some (.int .i64 x)) none none).run Tryd.prog w = .ok (.string (s.extract k s.size)) w := by
  subst hx
  simp [go_sem, hk]
theorem slice_to {s : ByteArray} (hk : 11 ≤ s.size) (w : World) :
    (Instr.slice 9 (.string s) none (some (.int .i64 11)) none).run Tryd.prog w = .ok (.string (s.extract 0 11)) w := by
  simp [go_sem]
  intro h
  omega
theorem prH_of {s : ByteArray} {k : Nat} (hk : k ≤ s.size) : prP (s.extract k s.size) = prH (s.data.toList.drop k) := by
  have e : (s.extract k s.size).data.toList = s.data.toList.drop k := Lib.extract_to_end s k
  have hsz : (s.extract k s.size).size = (s.data.toList.drop k).length := by rw [← e]; simp
  unfold prP bt
  rw [hsz, e]
  generalize s.data.toList.drop k = l
  match l with
  | [] => rfl
  | [_] => rfl
  | [_, _] => rfl
  | [_, _, _] => rfl
  | [_, _, _, _] => rfl
  | x :: a :: b :: c :: d :: r =>
    show (if 5 ≤ (x :: a :: b :: c :: d :: r).length ∧ x = 32 then (match bv a b, bv c d with | some u, some v => some (u, v) | _, _ => none) else none) = if x = 32 then (match bv a b, bv c d with | some u, some v => some (u, v) | _, _ => none) else none
    by_cases hx : x = 32
    · rw [if_pos ⟨by simp, hx⟩, if_pos hx]
    · rw [if_neg (fun h => hx h.2), if_neg hx]
def RdAt (w : World) (R base : Nat) (r : Rd) : Prop := ∃ A c, Held w R [.int .i64 r.first, .slice A (2 * r.ps.length) c, .bool r.drop, .bool r.begun] ∧ w.ownsRow base 5 1 (.slice A (2 * r.ps.length) c) (2 * r.ps.length) ((flat r.ps).map byteV)
def LineP (s : ByteArray) (r : Rd) (R base : Nat) (w : World) (e : Ending) (w' : World) : Prop :=
  (match lineV r s.data.toList with
    | .ok r' => e = .returned (.tuple #[.int .i64 0, .int .i64 0]) ∧ RdAt w' R base r'
    | .error c => e = .returned (.tuple #[.int .i64 c.1, .int .i64 c.2])) ∧ Below R w w'
theorem LineP.bad {s : ByteArray} {r : Rd} {R base : Nat} {w w' : World} {c k : Int} (h : lineV r s.data.toList = .error (c, k)) (hb : Below R w w') : LineP s r R base w (.returned (.tuple #[.int .i64 c, .int .i64 k])) w' := by
  refine ⟨?_, hb⟩
  rw [h]
theorem LineP.good {s : ByteArray} {r r' : Rd} {R base : Nat} {w w' : World} (h : lineV r s.data.toList = .ok r') (hr : RdAt w' R base r') (hb : Below R w w') : LineP s r R base w (.returned (.tuple #[.int .i64 0, .int .i64 0])) w' := by
  refine ⟨?_, hb⟩
  rw [h]
  exact ⟨rfl, hr⟩
theorem RdAt.ext {w w' : World} {R base : Nat} {r : Rd} (h : RdAt w R base r) (hb : Below w.heap.size w w') : RdAt w' R base r := by
  obtain ⟨A, c, h1, h2⟩ := h
  exact ⟨A, c, h1.ext hb, ownsRow_below h2 hb (Nat.le_refl _)⟩
theorem own_set {w : World} {base R n : Nat} {e : TypeId} {v : Value} {xs : List Value} (h : w.ownsRow base e 1 v n xs) (hR : R < base) (i : Nat) (u : Value) : (w.setCell ⟨R, i, none⟩ u).ownsRow base e 1 v n xs := by
  refine h.kept (row := some R) ⟨rfl, rfl, rfl, by simp [World.setCell], fun k _ hk => Below.heap_setCell _ _ _ _ (fun e => hk (by simp [e]))⟩ (Or.inr ?_)
  intro he
  have := own_base h R he
  omega
theorem own_drew {w : World} {base n : Nat} {e : TypeId} {v : Value} {xs : List Value} (h : w.ownsRow base e 1 v n xs) : w.drew.ownsRow base e 1 v n xs := h
theorem held_drew {w : World} {g : Nat} {cs : List Value} (h : Held w g cs) : Held w.drew g cs := h
theorem Held.grown {w w' : World} {g : Nat} {cs : List Value} {row : Option Nat} (h : Held w g cs) (hg : w.grownBy w' row) (hne : row ≠ some g) : Held w' g cs := by
  have hlt := h.lt
  obtain ⟨t, h⟩ := h
  exact ⟨t, (hg.block g hlt (Ne.symm hne)).trans h⟩
theorem flat_nuls (n : Nat) : flat (nuls n) = List.replicate (2 * n) 128 := by
  induction n with
  | zero => rfl
  | succ n ih =>
    show 128 :: 128 :: flat (nuls n) = _
    rw [ih, show 2 * (n + 1) = 2 * n + 1 + 1 from by omega, List.replicate_succ, List.replicate_succ]
theorem line_short (s : ByteArray) (r : Rd) (R base : Nat) (w : World) (hs : s.size < 11) :
    Calls Tryd.prog 39 #[.pointer (some ⟨R, 0, none⟩), .string s] w (LineP s r R base w) := by
  have HL := Lib.hid (lineV_short (r := r) (s := s.data.toList) (by simpa using hs))
  go_enter Tryd.func39, Tryd.ntmps39
  go_wp2_with fail
  go_ret2
  exact LineP.bad HL.out (Below.refl _ _)
theorem take_11 {s : ByteArray} : (s.extract 0 11).data.toList = s.data.toList.take 11 := by simp
theorem size_11 {s : ByteArray} (h : 11 ≤ s.size) : (s.extract 0 11).size = 11 := by simp; omega
theorem parse_none {s : ByteArray} (hs : s.size = 11) (h : labR s.data.toList = none) (w : World) :
    Calls Tryd.prog 64 #[.int .u8 4, .string s] w fun e w' => ∃ k : Int, e = .returned (.tuple #[.agg #[.int .i64 0, .int .i64 0, .int .i64 0, .int .i64 0, .bool false], .int .i64 k]) ∧ (k != 0) = true ∧ Below w.heap.size w w' := by
  refine (parse_any s w hs).mono ?_
  rintro e w' ⟨h1, h2⟩
  rw [h] at h1
  obtain ⟨k, hk, rfl⟩ := h1
  exact ⟨k, rfl, hk, h2⟩
theorem parse_some {s : ByteArray} {L : Lab} (hs : s.size = 11) (h : labR s.data.toList = some L) (w : World) :
    Calls Tryd.prog 64 #[.int .u8 4, .string s] w fun e w' => e = .returned (.tuple #[labA L, .int .i64 0]) ∧ Below w.heap.size w w' := by
  refine (parse_any s w hs).mono ?_
  rintro e w' ⟨h1, h2⟩
  rw [h] at h1
  exact ⟨h1, h2⟩
theorem line_lab (s : ByteArray) (r : Rd) (R base : Nat) (w : World) (hs : 11 ≤ s.size) (hl : labR (s.data.toList.take 11) = none) (hR : R ≤ w.heap.size) :
    Calls Tryd.prog 39 #[.pointer (some ⟨R, 0, none⟩), .string s] w (LineP s r R base w) := by
  have HL := Lib.hid (lineV_lab (r := r) (s := s.data.toList) (by simpa using hs) hl)
  have hsl := fun w' => slice_to hs w'
  have HC := Lib.hid (fun w' => parse_none (s := s.extract 0 11) (size_11 hs) (by rw [take_11]; exact hl) w')
  clear hl
  go_enter Tryd.func39, Tryd.ntmps39
  go_wp2_with fail
  refine (HC.out _).mono ?_
  rintro e w1 ⟨k, rfl, hk, hb⟩
  have HB := Lib.hid (show Below R w (w1.alloc (.cells #[.int .i64 0, .int .i64 0, .int .i64 0, .int .i64 0, .bool false] 56)) from (hb.mono hR).alloc (Nat.le_trans hR hb.size) _)
  clear hb
  go_wp2_with fail
  go_ret2
  exact LineP.bad HL.out HB.out
theorem line_type (s : ByteArray) (lh lm ls lf : Int) (ld : Bool) (fi : Int) (ps : List Pr) (R base : Nat) (w : World) (hs : 11 ≤ s.size) (hsm : s.size ≤ 1000000) (hl : labR (s.data.toList.take 11) = some ⟨lh, lm, ls, lf, ld⟩) (dr : Bool) (hd : ld = !dr) (hr : RdAt w R base ⟨true, dr, fi, ps⟩) (hb : R < base ∧ base ≤ w.heap.size) :
    Calls Tryd.prog 39 #[.pointer (some ⟨R, 0, none⟩), .string s] w (LineP s ⟨true, dr, fi, ps⟩ R base w) := by
  have HL := Lib.hid (lineV_type (r := ⟨true, dr, fi, ps⟩) (s := s.data.toList) (by simpa using hs) hl ⟨rfl, by rw [hd]; cases dr <;> simp⟩)
  have hne : (ld != dr) = true := by rw [hd]; cases dr <;> rfl
  have hne2 : (!ld == dr) = true := by rw [hd]; cases dr <;> rfl
  clear hd
  have HSZ := Lib.hid hs
  have hsl := fun w' => slice_to hs w'
  have HC := Lib.hid (fun w' => parse_some (s := s.extract 0 11) (size_11 hs) (by rw [take_11]; exact hl) w')
  have HLR := Lib.hid hl
  have HCL := Lib.hid (show chkL ⟨lh, lm, ls, lf, ld⟩ = 0 by
    rw [labR] at hl
    cases hw : labW (s.data.toList.take 11) with
    | none => rw [hw] at hl; cases hl
    | some L' =>
      rw [hw] at hl
      simp only [Option.bind_some] at hl
      split at hl
      · cases hl; assumption
      · cases hl)
  have HRD := Lib.hid hr
  have HBW := Lib.hid hb
  clear hl hr hb
  go_enter Tryd.func39, Tryd.ntmps39
  go_wp2_with fail
  refine (HC.out _).mono ?_
  rintro e w1 ⟨rfl, hb⟩
  simp only [labA]
  have RD := Lib.hid (HRD.out.ext hb)
  have FB := Lib.hid (show Below w.heap.size w w1 from hb)
  have z1 : w.heap.size ≤ w1.heap.size := hb.size
  clear hb HC HRD
  have RD2 := Lib.hid (RD.out.ext (below_one w1 (.cells #[.int .i64 lh, .int .i64 lm, .int .i64 ls, .int .i64 lf, .bool ld] 56)))
  go_wp2_with fail
  generalize hw2 : w1.alloc _ = w2 at *
  obtain ⟨A0, c0, hh, ho⟩ := RD2.out
  have HLB := Lib.hid (show Held w2 w1.heap.size [.int .i64 lh, .int .i64 lm, .int .i64 ls, .int .i64 lf, .bool ld] by subst hw2; exact Held.new rfl)
  have q0 := hh.cell 2
  have q1 := hh.cell 3
  have q2 := HLB.out.cell 4
  simp only [List.getElem?_cons_zero, List.getElem?_cons_succ] at q0 q1 q2
  have HB := Lib.hid (show Below R w w2 by subst hw2; have := HBW.out; exact (FB.out.mono (by omega)).alloc (by omega) _)
  clear hh ho hw2
  go_quiet (fail)
  go_wp2_with fail
  go_ret2
  exact LineP.bad HL.out (below_drewN HB.out _)
def tailF (r : Rd) (d : Bool) (fr : Int) (p : List Pr) : Except (Int × Int) Rd :=
  let first := if r.begun = true then r.first else fr
  let gap := fr - first - r.ps.length
  if gap < 0 then .error (1, 8)
  else if 200000 < r.ps.length + gap + p.length then .error (1, 9)
  else .ok ⟨true, d, first, r.ps ++ nuls gap.toNat ++ p⟩
theorem tailF_eq {r : Rd} {d : Bool} {fr F0 : Int} {p : List Pr} (h : (if r.begun = true then r.first else fr) = F0) : tailF r d fr p = if fr - F0 - r.ps.length < 0 then .error (1, 8) else if 200000 < r.ps.length + (fr - F0 - r.ps.length) + p.length then .error (1, 9) else .ok ⟨true, d, F0, r.ps ++ nuls (fr - F0 - r.ps.length).toNat ++ p⟩ := by
  subst h; rfl
theorem pair_none {s : ByteArray} (hs : s.size ≤ 1000000000) (h : prP s = none) (w : World) :
    Calls Tryd.prog 65 #[.string s] w fun e w' => e = .returned (.tuple #[.int .u8 0, .int .u8 0, .bool false]) ∧ Below w.heap.size w w' := by
  refine (pair_any s w hs).mono ?_
  rintro e w' ⟨h1, h2⟩
  rw [h] at h1
  exact ⟨h1, h2⟩
theorem pair_some {s : ByteArray} {p : Pr} (hs : s.size ≤ 1000000000) (h : prP s = some p) (w : World) :
    Calls Tryd.prog 65 #[.string s] w fun e w' => e = .returned (.tuple #[.int .u8 p.1.toNat, .int .u8 p.2.toNat, .bool true]) ∧ Below w.heap.size w w' := by
  refine (pair_any s w hs).mono ?_
  rintro e w' ⟨h1, h2⟩
  rw [h] at h1
  exact ⟨h1, h2⟩
theorem ret_two {a b c : Int} (h : a = b) : Ending.returned (.tuple #[.int .i64 a, .int .i64 c]) = Ending.returned (.tuple #[.int .i64 b, .int .i64 c]) := by rw [h]
set_option maxRecDepth 100000 in
set_option maxHeartbeats 2000000 in
theorem line_b (s : ByteArray) (lh lm ls lf : Int) (ld : Bool) (fi : Int) (ps : List Pr) (R base : Nat) (w : World) (hs : 11 ≤ s.size) (hsm : s.size ≤ 1000000) (hl : labR (s.data.toList.take 11) = some ⟨lh, lm, ls, lf, ld⟩) (hr : RdAt w R base ⟨true, ld, fi, ps⟩) (hb : R < base ∧ base ≤ w.heap.size) (hfi : 0 ≤ fi ∧ fi ≤ 2592000) (hps : ps.length ≤ 200000) :
    Calls Tryd.prog 39 #[.pointer (some ⟨R, 0, none⟩), .string s] w (LineP s ⟨true, ld, fi, ps⟩ R base w) := by
  have hlen : ¬ s.data.toList.length < 11 := by simpa using hs
  have h3 : ¬ ((⟨true, ld, fi, ps⟩ : Rd).begun = true ∧ (⟨lh, lm, ls, lf, ld⟩ : Lab).d ≠ (⟨true, ld, fi, ps⟩ : Rd).drop) := by simp
  have HLP := Lib.hid (fun (k : Nat) hk => lineV_pair (r := ⟨true, ld, fi, ps⟩) (s := s.data.toList) (k := k) hlen hl h3 hk)
  have HLT := Lib.hid (fun (p : List Pr) hp => lineV_tail (r := ⟨true, ld, fi, ps⟩) (s := s.data.toList) (p := p) hlen hl h3 hp)
  clear hlen h3
  have HSZ := Lib.hid hs
  have hsl := fun w' => slice_to hs w'
  have HC := Lib.hid (fun w' => parse_some (s := s.extract 0 11) (size_11 hs) (by rw [take_11]; exact hl) w')
  have HLR := Lib.hid hl
  have HCL := Lib.hid (show chkL ⟨lh, lm, ls, lf, ld⟩ = 0 by
    rw [labR] at hl
    cases hw : labW (s.data.toList.take 11) with
    | none => rw [hw] at hl; cases hl
    | some L' =>
      rw [hw] at hl
      simp only [Option.bind_some] at hl
      split at hl
      · cases hl; assumption
      · cases hl)
  have HRD := Lib.hid hr
  have HBW := Lib.hid hb
  clear hl hr hb
  go_enter Tryd.func39, Tryd.ntmps39
  go_wp2_with fail
  refine (HC.out _).mono ?_
  rintro e w1 ⟨rfl, hb⟩
  simp only [labA]
  have RD := Lib.hid (HRD.out.ext hb)
  have FB := Lib.hid (show Below w.heap.size w w1 from hb)
  have z1 : w.heap.size ≤ w1.heap.size := hb.size
  clear hb HC HRD
  have RD2 := Lib.hid (RD.out.ext (below_one w1 (.cells #[.int .i64 lh, .int .i64 lm, .int .i64 ls, .int .i64 lf, .bool ld] 56)))
  go_wp2_with fail
  obtain ⟨g1, hg1⟩ : ∃ g1, g1 = w1.heap.size := ⟨_, rfl⟩
  rw [← hg1]
  generalize hw2 : w1.alloc _ = w2 at *
  have HLB := Lib.hid (show Held w2 g1 [.int .i64 lh, .int .i64 lm, .int .i64 ls, .int .i64 lf, .bool ld] by subst hw2; exact Held.new hg1)
  have FB2 := Lib.hid (show Below w.heap.size w w2 by subst hw2; exact FB.out.alloc z1 _)
  have z2 : w.heap.size ≤ w2.heap.size := by subst hw2; simp; omega
  clear hw2 hg1 RD FB
  obtain ⟨A0, c0, hh, ho⟩ := RD2.out
  have q0 := hh.cell 2
  have q1 := hh.cell 3
  have q2 := HLB.out.cell 4
  simp only [List.getElem?_cons_zero, List.getElem?_cons_succ] at q0 q1 q2
  clear hh ho
  have hne : (ld != ld) = false := by cases ld <;> rfl
  have hne2 : (!ld == ld) = false := by cases ld <;> rfl
  go_quiet (fail)
  generalize hw3 : w2.drewN _ = w3
  replace RD2 := Lib.hid (show RdAt w3 R base ⟨true, ld, fi, ps⟩ by subst hw3; exact RD2.out.ext (below_drewN (Below.refl _ _) _))
  replace HLB := Lib.hid (show Held w3 g1 [.int .i64 lh, .int .i64 lm, .int .i64 ls, .int .i64 lf, .bool ld] by subst hw3; exact HLB.out.drewN _)
  replace FB2 := Lib.hid (show Below w.heap.size w w3 by subst hw3; exact below_drewN FB2.out _)
  replace z2 : w.heap.size ≤ w3.heap.size := by subst hw3; exact z2
  clear hw3 q0 q1 q2
  obtain ⟨pb, hpb⟩ : ∃ pb, pb = w3.heap.size := ⟨_, rfl⟩
  have HPB := Lib.hid hpb
  have zp : w.heap.size ≤ pb := by omega
  clear hpb
  obtain ⟨i0, hi, hz0, hz1, hz2⟩ := info_parts i5
  have HI0 := Lib.hid (And.intro hi (And.intro hz0 (And.intro hz1 hz2)))
  clear hi hz0 hz1 hz2
  go_wp2_with fail
  go_loopw [9, 8] (fun i v wr => ∃ (j : Nat) (Q : List Pr), i = .int .i64 (11 + 5 * (j : Int)) ∧ 11 + 5 * j ≤ s.size ∧ Hid (wr.ownsRow pb 5 1 v (2 * j) ((flat Q).map byteV)) ∧ Hid (Below pb w3 wr) ∧ Hid (Coll (s.data.toList.drop 11) j Q)) (fun i _ _ => (s.size + 11 - (intOf i).toNat))
  case atStart => exact ⟨0, [], rfl, by omega, Lib.hid (World.ownsRow_nil _ _ _ _), Lib.hid (Below.refl _ _), Lib.hid (Coll.start _)⟩
  case round =>
    obtain ⟨j, Q, rfl, hj, HO, G, HQ⟩ := hrel
    by_cases hgo : 11 + 5 * j < s.size ∨ j = 0
    · have hsf := fun w' => slice_str (s := s) (x := 11 + 5 * (j : Int)) (k := 11 + 5 * j) (by omega) hj w'
      have HD := Lib.hid (prH_of (s := s) hj)
      have HDD := Lib.hid (show s.data.toList.drop (11 + 5 * j) = (s.data.toList.drop 11).drop (5 * j) by rw [List.drop_drop])
      have hE : (s.extract (11 + 5 * j) s.size).size ≤ 1000000000 := by simp; omega
      generalize s.extract (11 + 5 * j) s.size = E at *
      have HE := Lib.hid hE
      clear hE
      have HG := Lib.hid hgo
      have HGB := Lib.hid (show (11 + 5 * (j : Int) < (s.size : Int)) ∨ (¬ (11 + 5 * (j : Int) < (s.size : Int)) ∧ (11 + 5 * (j : Int) == 11) = true) by
        by_cases h : 11 + 5 * (j : Int) < (s.size : Int)
        · exact .inl h
        · refine .inr ⟨h, ?_⟩
          rcases hgo with h2 | h2
          · omega
          · rw [h2]; rfl)
      clear hgo
      rcases HGB.out with hgo | ⟨hgo, hgb⟩
      all_goals
        cases hp : prP E with
        | none =>
          have HPN := Lib.hid (fun w' => pair_none HE.out hp w')
          have HLV := Lib.hid (HLP.out (5 * j) (Coll.fail HQ.out (by rw [← HDD.out, ← HD.out]; exact hp) (HG.out.imp (fun h => by simp; omega) id)))
          clear hp
          go_wp2_with fail
          refine (HPN.out _).mono ?_
          rintro e w4 ⟨rfl, hb⟩
          have HB := Lib.hid (show Below R w w4 by
            have h1 := HBW.out
            have h2 := HPB.out
            have h4 := G.out.size
            exact ((FB2.out.mono (by omega)).trans (G.out.mono (by omega))).trans (hb.mono (by omega)))
          clear hb
          go_wp2_with fail
          go_ret2
          show LineP s ⟨true, ld, fi, ps⟩ R base w (.returned (.tuple #[.int .i64 (11 + 5 * (j : Int) + 1), .int .i64 4])) _
          rw [show (11 + 5 * (j : Int) + 1) = 12 + ((5 * j : Nat) : Int) from by omega]
          exact LineP.bad HLV.out HB.out
        | some p =>
          have HPS := Lib.hid (fun w' => pair_some HE.out hp w')
          have HQ2 := Lib.hid (Coll.step HQ.out (p := p) (by rw [← HDD.out, ← HD.out]; exact hp))
          clear hp
          obtain ⟨pu, pv⟩ := p
          go_wp2_with fail
          refine (HPS.out _).mono ?_
          rintro e w4 ⟨rfl, hb⟩
          have hj5 : 5 ≤ (s.data.toList.drop (11 + 5 * j)).length := by
            have := HQ2.out.2.2
            simp at this ⊢
            omega
          have hj6 : 11 + 5 * (j + 1) ≤ s.size := by simp at hj5; omega
          clear hj5
          have zw4 : pb ≤ w4.heap.size := by have := HPB.out; have := G.out.size; have := hb.size; omega
          replace HO := Lib.hid (ownsRow_below HO.out hb (Nat.le_refl _))
          replace G := Lib.hid (G.out.trans (hb.mono (by have := HPB.out; have := G.out.size; omega)))
          clear hb
          try clear hgb
          clear hgo
          go_wp2_with (at_builtin; refine wpList_append_own _ rfl _ _ 22 rfl pb 5 i0 (.int .u8 0) 1 1 Tryd.underlying22 HI0.out.1 HI0.out.2.1 HI0.out.2.2.1 HI0.out.2.2.2 rfl (by decide) _ (2 * j) ((flat Q).map byteV) rfl (HO.out.alloc _) ⟨w4.heap.size, 0, none⟩ 2 2 [.int .u8 pu.toNat, .int .u8 pv.toNat] rfl rfl (CellsAt.all (by simp [CellsAt, go_sem])) (by simp [Value.oneCell']) (by simp only [maxLen]; omega) (by omega) (by simp; omega) ?_)
          intro v5 w5 ho hgr _
          replace G := Lib.hid (G.out.trans (((Below.refl _ _).alloc zw4 _).grown hgr (by simp; omega) (own_base HO.out)))
          replace HO := Lib.hid (show w5.ownsRow pb 5 1 v5 (2 * (j + 1)) ((flat (Q ++ [(pu, pv)])).map byteV) by
            rw [flat_app, List.map_append, show 2 * (j + 1) = 2 * j + 2 from by omega]
            exact ho)
          clear ho hgr
          go_wp2_with fail
          go_roundw
          case rel => exact ⟨j + 1, Q ++ [(pu, pv)], by congr 1 <;> omega, hj6, HO, G, HQ2⟩
          case measure => simp [intOf]; omega
    · have hj1 := Lib.hid (show 1 ≤ j by omega)
      have hjs := Lib.hid (show s.size ≤ 11 + 5 * j by omega)
      have g1' : ¬ (11 + 5 * (j : Int) < (s.size : Int)) := by omega
      have g2' : (11 + 5 * (j : Int) == 11) = false := by rw [beq_eq_false_iff_ne]; omega
      clear hgo
      have HLr := Lib.hid (HLB.out.below G.out (by rw [HPB.out]; exact HLB.out.lt))
      have q0 := HLr.out.cell 0
      have q1 := HLr.out.cell 1
      have q2 := HLr.out.cell 2
      have q3 := HLr.out.cell 3
      have q4 := HLr.out.cell 4
      simp only [List.getElem?_cons_zero, List.getElem?_cons_succ] at q0 q1 q2 q3 q4
      go_wp2_with fail
      have HT := Lib.hid (HLT.out Q (HQ.out.done hj1.out (by have := hjs.out; simp; omega)))
      clear g1' g2'
      refine (frame_any ⟨lh, lm, ls, lf, ld⟩ _ HCL.out).mono ?_
      rintro e w4 ⟨rfl, hb⟩
      obtain ⟨f1, f2⟩ := frmV_range HCL.out
      have f3 := dayV_le (⟨lh, lm, ls, lf, ld⟩ : Lab).d
      have HFR := Lib.hid (show frmV ⟨lh, lm, ls, lf, ld⟩ = frmV ⟨lh, lm, ls, lf, ld⟩ from rfl)
      replace HT := Lib.hid (show lineV ⟨true, ld, fi, ps⟩ s.data.toList = tailF ⟨true, ld, fi, ps⟩ ld (frmV ⟨lh, lm, ls, lf, ld⟩) Q from HT.out)
      have f4 : frmV ⟨lh, lm, ls, lf, ld⟩ < 2592000 := Int.lt_of_lt_of_le f2 f3
      generalize frmV ⟨lh, lm, ls, lf, ld⟩ = fr at *
      clear f2 f3 HFR q0 q1 q2 q3 q4
      have hjQ := Lib.hid (HQ.out.2.1)
      have zr4 : pb ≤ w4.heap.size := by have := HPB.out; have := G.out.size; have := hb.size; omega
      replace HO := Lib.hid (ownsRow_below HO.out hb (Nat.le_refl _))
      replace G := Lib.hid (G.out.trans (hb.mono (by have := HPB.out; have := G.out.size; omega)))
      replace HLB := Lib.hid (HLB.out.below G.out (by rw [HPB.out]; exact HLB.out.lt))
      have hb34 : Below w3.heap.size w3 w4 := by have := G.out; rw [HPB.out] at this; exact this
      have FBx := Lib.hid (show Below R w w4 by
        have h1 := HBW.out
        exact (FB2.out.mono (by omega)).trans (G.out.mono (by omega)))
      obtain ⟨gp, cp, rfl, hgp, hgp2⟩ := HO.out.form (by have := hj1.out; omega)
      obtain ⟨A0, c0, hh3, ho3⟩ := RD2.out
      have hh := hh3.ext hb34
      have ho := ownsRow_below ho3 hb34 (Nat.le_refl _)
      have HH := Lib.hid hh
      have HOR := Lib.hid ho
      have HNE0 := Lib.hid (show (Value.slice A0 (2 * ps.length) c0).ownBlock ≠ some gp from fun e => by
        have h1 := (ho3.lt gp e).2
        rw [← HPB.out] at h1
        omega)
      clear hb hh ho hh3 ho3 hb34 RD2 G FB2 HQ HLP HLT hsl
      simp only [] at HH HOR
      have q0 := HH.out.cell 0
      have q1 := HH.out.cell 1
      have q2 := HH.out.cell 2
      have q3 := HH.out.cell 3
      have y0 := HH.out.free 0
      have y1 := HH.out.free 1
      have y2 := HH.out.free 2
      have y3 := HH.out.free 3
      have lb4 := HLB.out.cell 4
      simp only [List.getElem?_cons_zero, List.getElem?_cons_succ] at q0 q1 q2 q3 lb4
      go_wp2_with fail
      obtain ⟨F0, hF0⟩ : ∃ F0, F0 = fi := ⟨_, rfl⟩
      have HF0 := Lib.hid hF0.symm
      have hF : 0 ≤ F0 ∧ F0 ≤ 2592000 := by omega
      replace HH := Lib.hid (show Held w4 R [.int .i64 F0, .slice A0 (2 * ps.length) c0, .bool ld, .bool true] by rw [hF0]; exact HH.out)
      have HTF := Lib.hid (HT.out.trans (tailF_eq (show (if true = true then fi else fr) = F0 by rw [if_pos rfl]; exact HF0.out)))
      clear hF0 q0 q1 q2 q3 y0 y1 y2 y3 HLB lb4
      have HNE := Lib.hid (show (Value.slice A0 (2 * ps.length) c0).ownBlock ≠ some gp from HNE0.out)
      obtain ⟨q0, q1, q2, q3, y0, y1, y2, y3⟩ : w4.cell? ⟨R, 0, none⟩ = some (.int .i64 F0) ∧ w4.cell? ⟨R, 1, none⟩ = some (.slice A0 (2 * ps.length) c0) ∧ w4.cell? ⟨R, 2, none⟩ = some (.bool ld) ∧ w4.cell? ⟨R, 3, none⟩ = some (.bool true) ∧ w4.frozen? ⟨R, 0, none⟩ = false ∧ w4.frozen? ⟨R, 1, none⟩ = false ∧ w4.frozen? ⟨R, 2, none⟩ = false ∧ w4.frozen? ⟨R, 3, none⟩ = false := ⟨HH.out.cell 0, HH.out.cell 1, HH.out.cell 2, HH.out.cell 3, HH.out.free 0, HH.out.free 1, HH.out.free 2, HH.out.free 3⟩
      have s1 : IntKind.i64.wrap (fr - F0) = fr - F0 := IntWalk.i64_in _ (by omega)
      have s2 : IntKind.i64.wrap (fr - F0 - (ps.length : Int)) = fr - F0 - (ps.length : Int) := IntWalk.i64_in _ (by omega)
      go_wp2_with fail
      go_quiet (fail)
      generalize hw5 : w4.drewN _ = w5
      replace HH := Lib.hid (show Held w5 R _ by subst hw5; exact HH.out.drewN _)
      replace HO := Lib.hid (show w5.ownsRow _ _ _ _ _ _ by subst hw5; exact ownsRow_below HO.out (below_drewN (Below.refl _ _) _) (Nat.le_refl _))
      replace HOR := Lib.hid (show w5.ownsRow _ _ _ _ _ _ by subst hw5; exact ownsRow_below HOR.out (below_drewN (Below.refl _ _) _) (Nat.le_refl _))
      replace FBx := Lib.hid (show Below R w w5 by subst hw5; exact below_drewN FBx.out _)
      replace zr4 : pb ≤ w5.heap.size := by subst hw5; exact zr4
      clear hw5 q0 q1 q2 q3 y0 y1 y2 y3 s1 s2
      obtain ⟨q0, q1, q2, q3, y0, y1, y2, y3⟩ : w5.cell? ⟨R, 0, none⟩ = some (.int .i64 F0) ∧ w5.cell? ⟨R, 1, none⟩ = some (.slice A0 (2 * ps.length) c0) ∧ w5.cell? ⟨R, 2, none⟩ = some (.bool ld) ∧ w5.cell? ⟨R, 3, none⟩ = some (.bool true) ∧ w5.frozen? ⟨R, 0, none⟩ = false ∧ w5.frozen? ⟨R, 1, none⟩ = false ∧ w5.frozen? ⟨R, 2, none⟩ = false ∧ w5.frozen? ⟨R, 3, none⟩ = false := ⟨HH.out.cell 0, HH.out.cell 1, HH.out.cell 2, HH.out.cell 3, HH.out.free 0, HH.out.free 1, HH.out.free 2, HH.out.free 3⟩
      by_cases hgap : fr - F0 - (ps.length : Int) < 0
      · have HL := Lib.hid (HTF.out.trans (if_pos hgap))
        go_wp2_with fail
        go_ret2
        exact LineP.bad HL.out FBx.out
      · obtain ⟨gN, hgN⟩ : ∃ gN : Nat, fr - F0 - (ps.length : Int) = gN := ⟨(fr - F0 - (ps.length : Int)).toNat, by omega⟩
        have HGN := Lib.hid hgN
        have HT2 := Lib.hid (HTF.out.trans (if_neg hgap))
        have hgN3 : gN ≤ 2592000 := by omega
        rw [hgN]
        clear hgN hgap
        have hj3 : 5 * j ≤ 1000000 := by omega
        have HQl := hjQ
        by_cases hbig : 200000 < ps.length + gN + j
        · have HL := Lib.hid (show lineV ⟨true, ld, fi, ps⟩ s.data.toList = .error (1, 9) from HT2.out.trans (by rw [HGN.out, HQl.out, if_pos (by omega)]))
          go_wp2_with fail
          go_ret2
          exact LineP.bad HL.out FBx.out
        · have HL := Lib.hid (show lineV ⟨true, ld, fi, ps⟩ s.data.toList = .ok ⟨true, ld, F0, ps ++ nuls gN ++ Q⟩ from HT2.out.trans (by rw [HGN.out, HQl.out, if_neg (by omega)]; rfl))
          have hgN2 : gN ≤ 200000 := by omega
          go_wp2_with fail
          go_loopw [123] (fun x wr => ∃ (i : Nat) (A1 : Option Addr) (c1 : Nat), i ≤ 2 * gN ∧ x = .int .i64 i ∧ Hid (Held wr R [.int .i64 F0, .slice A1 (2 * ps.length + i) c1, .bool ld, .bool true]) ∧ Hid (wr.ownsRow base 5 1 (.slice A1 (2 * ps.length + i) c1) (2 * ps.length + i) ((flat ps ++ List.replicate i 128).map byteV)) ∧ Hid (wr.ownsRow pb 5 1 (.slice (some ⟨gp, 0, none⟩) (2 * j) cp) (2 * j) ((flat Q).map byteV)) ∧ Hid (Below R w wr) ∧ pb ≤ wr.heap.size ∧ Hid ((Value.slice A1 (2 * ps.length + i) c1).ownBlock ≠ some gp)) (fun x _ => 2 * gN - (intOf x).toNat)
          case atStart => exact ⟨0, A0, c0, by omega, rfl, HH, Lib.hid (by simpa using HOR.out), HO, FBx, zr4, HNE⟩
          case round =>
            obtain ⟨i, A1, c1, hi, rfl, HH, HOR, HO, FBx, zr4, HNE⟩ := hrel
            obtain ⟨q0, q1, q2, q3, y0, y1, y2, y3⟩ : wr.cell? ⟨R, 0, none⟩ = some (.int .i64 F0) ∧ wr.cell? ⟨R, 1, none⟩ = some (.slice A1 (2 * ps.length + i) c1) ∧ wr.cell? ⟨R, 2, none⟩ = some (.bool ld) ∧ wr.cell? ⟨R, 3, none⟩ = some (.bool true) ∧ wr.frozen? ⟨R, 0, none⟩ = false ∧ wr.frozen? ⟨R, 1, none⟩ = false ∧ wr.frozen? ⟨R, 2, none⟩ = false ∧ wr.frozen? ⟨R, 3, none⟩ = false := ⟨HH.out.cell 0, HH.out.cell 1, HH.out.cell 2, HH.out.cell 3, HH.out.free 0, HH.out.free 1, HH.out.free 2, HH.out.free 3⟩
            have hbz : base ≤ wr.heap.size := by have := HBW.out; omega
            by_cases hlt : i < 2 * gN
            · go_wp2_with (at_builtin; refine wpList_append_lies _ rfl _ _ 22 rfl base 5 i0 (.int .u8 0) 1 1 Tryd.underlying22 HI0.out.1 HI0.out.2.1 HI0.out.2.2.1 HI0.out.2.2.2 rfl (by decide) (.slice A1 (2 * ps.length + i) c1) (2 * ps.length + i) ((flat ps ++ List.replicate i 128).map byteV) rfl (HOR.out.alloc _) ⟨wr.heap.size, 0, none⟩ 1 1 [.int .u8 128] rfl rfl (CellsAt.all (by simp [CellsAt, go_sem])) (by simp [Value.oneCell']) (by omega) (by simp only [maxLen]; omega) (by omega) (by simp; omega) (wr.heap.size + 1) (by simp) ?_)
              intro g cap w6 ho hgr hat hlt6
              have FG := Lib.hid (hgr.size)
              have hRo : R < base := HBW.out.1
              have hRne : (Value.slice A1 (2 * ps.length + i) c1).ownBlock ≠ some R := fun e => by have := own_base HOR.out R e; omega
              have HH6 := Lib.hid (Held.grown (HH.out.alloc (.cells #[.int .u8 128] 5)) hgr hRne)
              have HO6 := Lib.hid (World.ownsRow.kept (HO.out.alloc (.cells #[.int .u8 128] 5)) hgr (.inr (Ne.symm HNE.out)))
              have FB6 := Lib.hid ((FBx.out.alloc (Nat.le_of_lt (HH.out.lt)) (.cells #[.int .u8 128] 5)).grown hgr (by simp; omega) (fun k hk => by have := own_base HOR.out k hk; omega))
              have zr6 : pb ≤ w6.heap.size := by have := FG.out; simp at this; omega
              have HNE6 := Lib.hid (show (Value.slice (some ⟨g, 0, none⟩) (2 * ps.length + (i + 1)) cap).ownBlock ≠ some gp from fun e => by
                simp [Value.ownBlock] at e
                rcases hat with h | h
                · exact HNE.out (by rw [h, e])
                · have := (HO.out.lt gp rfl).2
                  omega)
              have HOR6 := Lib.hid (show w6.ownsRow base 5 1 (.slice (some ⟨g, 0, none⟩) (2 * ps.length + (i + 1)) cap) (2 * ps.length + (i + 1)) ((flat ps ++ List.replicate (i + 1) 128).map byteV) by
                have e9 : List.map byteV (flat ps ++ List.replicate (i + 1) (128 : UInt8)) = List.map byteV (flat ps) ++ (List.replicate i (byteV 128) ++ [Value.int .u8 128]) := by rw [List.replicate_succ']; simp; rfl
                rw [e9, ← Nat.add_assoc]
                simpa using ho)
              clear ho hgr hat q0 q1 q2 q3 y0 y1 y2 y3 HH HO HOR HNE FBx zr4
              obtain ⟨q0, q1, q2, q3, y0, y1, y2, y3⟩ : w6.cell? ⟨R, 0, none⟩ = some (.int .i64 F0) ∧ w6.cell? ⟨R, 1, none⟩ = some (.slice A1 (2 * ps.length + i) c1) ∧ w6.cell? ⟨R, 2, none⟩ = some (.bool ld) ∧ w6.cell? ⟨R, 3, none⟩ = some (.bool true) ∧ w6.frozen? ⟨R, 0, none⟩ = false ∧ w6.frozen? ⟨R, 1, none⟩ = false ∧ w6.frozen? ⟨R, 2, none⟩ = false ∧ w6.frozen? ⟨R, 3, none⟩ = false := ⟨HH6.out.cell 0, HH6.out.cell 1, HH6.out.cell 2, HH6.out.cell 3, HH6.out.free 0, HH6.out.free 1, HH6.out.free 2, HH6.out.free 3⟩
              go_wp2_with fail
              go_roundw
              case rel => exact ⟨i + 1, some ⟨g, 0, none⟩, cap, by omega, by go_num, Lib.hid (HH6.out.set 1 _), Lib.hid (own_set HOR6.out hRo 1 _), Lib.hid (own_set HO6.out (by have := HBW.out; omega) 1 _), Lib.hid (FB6.out.setCell (by simp) _), by simpa using zr6, HNE6⟩
              case measure => simp [intOf]; omega
            · obtain rfl : i = 2 * gN := by omega
              obtain ⟨A9, c9, e9, r9, _⟩ := row_of_own HO.out
              cases e9
              have HN1 := Lib.hid (show ((flat Q).map byteV).length = 2 * j * 1 by have := HQl.out; simp [flat_len]; omega)
              have HN2 := Lib.hid (row_add r9)
              have HN3 := Lib.hid (show ∀ u ∈ (flat Q).map byteV, u.oneCell' = true by
                intro u hu
                obtain ⟨x, _, rfl⟩ := List.mem_map.1 hu
                rfl)
              clear r9
              go_wp2_with (at_builtin; refine wpList_append_lies _ rfl _ _ 22 rfl base 5 i0 (.int .u8 0) 1 1 Tryd.underlying22 HI0.out.1 HI0.out.2.1 HI0.out.2.2.1 HI0.out.2.2.2 rfl (by decide) (.slice A1 (2 * ps.length + 2 * gN) c1) (2 * ps.length + 2 * gN) ((flat ps ++ List.replicate (2 * gN) 128).map byteV) rfl HOR.out ⟨gp, 0, none⟩ (2 * j) cp ((flat Q).map byteV) rfl HN1.out HN2.out HN3.out (by have := hj1.out; omega) (by simp only [maxLen]; omega) (by omega) hbz (wr.heap.size) rfl ?_)
              intro g cap w6 ho hgr hat hlt6
              have hRo : R < base := HBW.out.1
              have hRne : (Value.slice A1 (2 * ps.length + 2 * gN) c1).ownBlock ≠ some R := fun e => by have := own_base HOR.out R e; omega
              have HH6 := Lib.hid (Held.grown HH.out hgr hRne)
              have FB6 := Lib.hid (FBx.out.grown hgr (Nat.le_of_lt (HH.out.lt)) (fun k hk => by have := own_base HOR.out k hk; omega))
              have HOR6 := Lib.hid (show w6.ownsRow base 5 1 (.slice (some ⟨g, 0, none⟩) (2 * (ps ++ nuls gN ++ Q).length) cap) (2 * (ps ++ nuls gN ++ Q).length) ((flat (ps ++ nuls gN ++ Q)).map byteV) by
                have e1 : 2 * (ps ++ nuls gN ++ Q).length = 2 * ps.length + 2 * gN + 2 * j := by have := HQl.out; simp [nuls]; omega
                have e2 : (flat (ps ++ nuls gN ++ Q)).map byteV = (flat ps ++ List.replicate (2 * gN) 128).map byteV ++ (flat Q).map byteV := by
                  rw [flat_app, flat_app, flat_nuls, List.map_append]
                rw [e1, e2]
                simpa using ho)
              have ecap : 2 * ps.length + 2 * gN + 2 * j = 2 * (ps ++ nuls gN ++ Q).length := by have := HQl.out; simp [nuls]; omega
              rw [ecap]
              generalize (ps ++ nuls gN ++ Q) = ps2 at *
              clear ecap ho hgr hat q0 q1 q2 q3 y0 y1 y2 y3 HH HO HOR HNE FBx zr4
              obtain ⟨q0, q1, q2, q3, y0, y1, y2, y3⟩ : w6.cell? ⟨R, 0, none⟩ = some (.int .i64 F0) ∧ w6.cell? ⟨R, 1, none⟩ = some (.slice A1 (2 * ps.length + 2 * gN) c1) ∧ w6.cell? ⟨R, 2, none⟩ = some (.bool ld) ∧ w6.cell? ⟨R, 3, none⟩ = some (.bool true) ∧ w6.frozen? ⟨R, 0, none⟩ = false ∧ w6.frozen? ⟨R, 1, none⟩ = false ∧ w6.frozen? ⟨R, 2, none⟩ = false ∧ w6.frozen? ⟨R, 3, none⟩ = false := ⟨HH6.out.cell 0, HH6.out.cell 1, HH6.out.cell 2, HH6.out.cell 3, HH6.out.free 0, HH6.out.free 1, HH6.out.free 2, HH6.out.free 3⟩
              go_wp2_with fail
              go_ret2
              exact LineP.good HL.out ⟨some ⟨g, 0, none⟩, cap, HH6.out.set 1 _, own_set HOR6.out hRo 1 _⟩ (FB6.out.setCell (by simp) _)

set_option maxRecDepth 100000 in
set_option maxHeartbeats 2000000 in
theorem line_n (s : ByteArray) (lh lm ls lf : Int) (ld : Bool) (fi : Int) (ps : List Pr) (R base : Nat) (w : World) (hs : 11 ≤ s.size) (hsm : s.size ≤ 1000000) (hl : labR (s.data.toList.take 11) = some ⟨lh, lm, ls, lf, ld⟩) (dr : Bool) (hr : RdAt w R base ⟨false, dr, fi, ps⟩) (hb : R < base ∧ base ≤ w.heap.size) (hfi : 0 ≤ fi ∧ fi ≤ 2592000) (hps : ps.length ≤ 200000) :
    Calls Tryd.prog 39 #[.pointer (some ⟨R, 0, none⟩), .string s] w (LineP s ⟨false, dr, fi, ps⟩ R base w) := by
  have hlen : ¬ s.data.toList.length < 11 := by simpa using hs
  have h3 : ¬ ((⟨false, dr, fi, ps⟩ : Rd).begun = true ∧ (⟨lh, lm, ls, lf, ld⟩ : Lab).d ≠ (⟨false, dr, fi, ps⟩ : Rd).drop) := by simp
  have HLP := Lib.hid (fun (k : Nat) hk => lineV_pair (r := ⟨false, dr, fi, ps⟩) (s := s.data.toList) (k := k) hlen hl h3 hk)
  have HLT := Lib.hid (fun (p : List Pr) hp => lineV_tail (r := ⟨false, dr, fi, ps⟩) (s := s.data.toList) (p := p) hlen hl h3 hp)
  clear hlen h3
  have HSZ := Lib.hid hs
  have hsl := fun w' => slice_to hs w'
  have HC := Lib.hid (fun w' => parse_some (s := s.extract 0 11) (size_11 hs) (by rw [take_11]; exact hl) w')
  have HLR := Lib.hid hl
  have HCL := Lib.hid (show chkL ⟨lh, lm, ls, lf, ld⟩ = 0 by
    rw [labR] at hl
    cases hw : labW (s.data.toList.take 11) with
    | none => rw [hw] at hl; cases hl
    | some L' =>
      rw [hw] at hl
      simp only [Option.bind_some] at hl
      split at hl
      · cases hl; assumption
      · cases hl)
  have HRD := Lib.hid hr
  have HBW := Lib.hid hb
  clear hl hr hb
  go_enter Tryd.func39, Tryd.ntmps39
  go_wp2_with fail
  refine (HC.out _).mono ?_
  rintro e w1 ⟨rfl, hb⟩
  simp only [labA]
  have RD := Lib.hid (HRD.out.ext hb)
  have FB := Lib.hid (show Below w.heap.size w w1 from hb)
  have z1 : w.heap.size ≤ w1.heap.size := hb.size
  clear hb HC HRD
  have RD2 := Lib.hid (RD.out.ext (below_one w1 (.cells #[.int .i64 lh, .int .i64 lm, .int .i64 ls, .int .i64 lf, .bool ld] 56)))
  go_wp2_with fail
  obtain ⟨g1, hg1⟩ : ∃ g1, g1 = w1.heap.size := ⟨_, rfl⟩
  rw [← hg1]
  generalize hw2 : w1.alloc _ = w2 at *
  have HLB := Lib.hid (show Held w2 g1 [.int .i64 lh, .int .i64 lm, .int .i64 ls, .int .i64 lf, .bool ld] by subst hw2; exact Held.new hg1)
  have FB2 := Lib.hid (show Below w.heap.size w w2 by subst hw2; exact FB.out.alloc z1 _)
  have z2 : w.heap.size ≤ w2.heap.size := by subst hw2; simp; omega
  clear hw2 hg1 RD FB
  obtain ⟨A0, c0, hh, ho⟩ := RD2.out
  have q0 := hh.cell 2
  have q1 := hh.cell 3
  have q2 := HLB.out.cell 4
  simp only [List.getElem?_cons_zero, List.getElem?_cons_succ] at q0 q1 q2
  clear hh ho
  
  
  go_quiet (fail)
  generalize hw3 : w2.drewN _ = w3
  replace RD2 := Lib.hid (show RdAt w3 R base ⟨false, dr, fi, ps⟩ by subst hw3; exact RD2.out.ext (below_drewN (Below.refl _ _) _))
  replace HLB := Lib.hid (show Held w3 g1 [.int .i64 lh, .int .i64 lm, .int .i64 ls, .int .i64 lf, .bool ld] by subst hw3; exact HLB.out.drewN _)
  replace FB2 := Lib.hid (show Below w.heap.size w w3 by subst hw3; exact below_drewN FB2.out _)
  replace z2 : w.heap.size ≤ w3.heap.size := by subst hw3; exact z2
  clear hw3 q0 q1 q2
  obtain ⟨pb, hpb⟩ : ∃ pb, pb = w3.heap.size := ⟨_, rfl⟩
  have HPB := Lib.hid hpb
  have zp : w.heap.size ≤ pb := by omega
  clear hpb
  obtain ⟨i0, hi, hz0, hz1, hz2⟩ := info_parts i5
  have HI0 := Lib.hid (And.intro hi (And.intro hz0 (And.intro hz1 hz2)))
  clear hi hz0 hz1 hz2
  go_wp2_with fail
  go_loopw [9, 8] (fun i v wr => ∃ (j : Nat) (Q : List Pr), i = .int .i64 (11 + 5 * (j : Int)) ∧ 11 + 5 * j ≤ s.size ∧ Hid (wr.ownsRow pb 5 1 v (2 * j) ((flat Q).map byteV)) ∧ Hid (Below pb w3 wr) ∧ Hid (Coll (s.data.toList.drop 11) j Q)) (fun i _ _ => (s.size + 11 - (intOf i).toNat))
  case atStart => exact ⟨0, [], rfl, by omega, Lib.hid (World.ownsRow_nil _ _ _ _), Lib.hid (Below.refl _ _), Lib.hid (Coll.start _)⟩
  case round =>
    obtain ⟨j, Q, rfl, hj, HO, G, HQ⟩ := hrel
    by_cases hgo : 11 + 5 * j < s.size ∨ j = 0
    · have hsf := fun w' => slice_str (s := s) (x := 11 + 5 * (j : Int)) (k := 11 + 5 * j) (by omega) hj w'
      have HD := Lib.hid (prH_of (s := s) hj)
      have HDD := Lib.hid (show s.data.toList.drop (11 + 5 * j) = (s.data.toList.drop 11).drop (5 * j) by rw [List.drop_drop])
      have hE : (s.extract (11 + 5 * j) s.size).size ≤ 1000000000 := by simp; omega
      generalize s.extract (11 + 5 * j) s.size = E at *
      have HE := Lib.hid hE
      clear hE
      have HG := Lib.hid hgo
      have HGB := Lib.hid (show (11 + 5 * (j : Int) < (s.size : Int)) ∨ (¬ (11 + 5 * (j : Int) < (s.size : Int)) ∧ (11 + 5 * (j : Int) == 11) = true) by
        by_cases h : 11 + 5 * (j : Int) < (s.size : Int)
        · exact .inl h
        · refine .inr ⟨h, ?_⟩
          rcases hgo with h2 | h2
          · omega
          · rw [h2]; rfl)
      clear hgo
      rcases HGB.out with hgo | ⟨hgo, hgb⟩
      all_goals
        cases hp : prP E with
        | none =>
          have HPN := Lib.hid (fun w' => pair_none HE.out hp w')
          have HLV := Lib.hid (HLP.out (5 * j) (Coll.fail HQ.out (by rw [← HDD.out, ← HD.out]; exact hp) (HG.out.imp (fun h => by simp; omega) id)))
          clear hp
          go_wp2_with fail
          refine (HPN.out _).mono ?_
          rintro e w4 ⟨rfl, hb⟩
          have HB := Lib.hid (show Below R w w4 by
            have h1 := HBW.out
            have h2 := HPB.out
            have h4 := G.out.size
            exact ((FB2.out.mono (by omega)).trans (G.out.mono (by omega))).trans (hb.mono (by omega)))
          clear hb
          go_wp2_with fail
          go_ret2
          show LineP s ⟨false, dr, fi, ps⟩ R base w (.returned (.tuple #[.int .i64 (11 + 5 * (j : Int) + 1), .int .i64 4])) _
          rw [show (11 + 5 * (j : Int) + 1) = 12 + ((5 * j : Nat) : Int) from by omega]
          exact LineP.bad HLV.out HB.out
        | some p =>
          have HPS := Lib.hid (fun w' => pair_some HE.out hp w')
          have HQ2 := Lib.hid (Coll.step HQ.out (p := p) (by rw [← HDD.out, ← HD.out]; exact hp))
          clear hp
          obtain ⟨pu, pv⟩ := p
          go_wp2_with fail
          refine (HPS.out _).mono ?_
          rintro e w4 ⟨rfl, hb⟩
          have hj5 : 5 ≤ (s.data.toList.drop (11 + 5 * j)).length := by
            have := HQ2.out.2.2
            simp at this ⊢
            omega
          have hj6 : 11 + 5 * (j + 1) ≤ s.size := by simp at hj5; omega
          clear hj5
          have zw4 : pb ≤ w4.heap.size := by have := HPB.out; have := G.out.size; have := hb.size; omega
          replace HO := Lib.hid (ownsRow_below HO.out hb (Nat.le_refl _))
          replace G := Lib.hid (G.out.trans (hb.mono (by have := HPB.out; have := G.out.size; omega)))
          clear hb
          try clear hgb
          clear hgo
          go_wp2_with (at_builtin; refine wpList_append_own _ rfl _ _ 22 rfl pb 5 i0 (.int .u8 0) 1 1 Tryd.underlying22 HI0.out.1 HI0.out.2.1 HI0.out.2.2.1 HI0.out.2.2.2 rfl (by decide) _ (2 * j) ((flat Q).map byteV) rfl (HO.out.alloc _) ⟨w4.heap.size, 0, none⟩ 2 2 [.int .u8 pu.toNat, .int .u8 pv.toNat] rfl rfl (CellsAt.all (by simp [CellsAt, go_sem])) (by simp [Value.oneCell']) (by simp only [maxLen]; omega) (by omega) (by simp; omega) ?_)
          intro v5 w5 ho hgr _
          replace G := Lib.hid (G.out.trans (((Below.refl _ _).alloc zw4 _).grown hgr (by simp; omega) (own_base HO.out)))
          replace HO := Lib.hid (show w5.ownsRow pb 5 1 v5 (2 * (j + 1)) ((flat (Q ++ [(pu, pv)])).map byteV) by
            rw [flat_app, List.map_append, show 2 * (j + 1) = 2 * j + 2 from by omega]
            exact ho)
          clear ho hgr
          go_wp2_with fail
          go_roundw
          case rel => exact ⟨j + 1, Q ++ [(pu, pv)], by congr 1 <;> omega, hj6, HO, G, HQ2⟩
          case measure => simp [intOf]; omega
    · have hj1 := Lib.hid (show 1 ≤ j by omega)
      have hjs := Lib.hid (show s.size ≤ 11 + 5 * j by omega)
      have g1' : ¬ (11 + 5 * (j : Int) < (s.size : Int)) := by omega
      have g2' : (11 + 5 * (j : Int) == 11) = false := by rw [beq_eq_false_iff_ne]; omega
      clear hgo
      have HLr := Lib.hid (HLB.out.below G.out (by rw [HPB.out]; exact HLB.out.lt))
      have q0 := HLr.out.cell 0
      have q1 := HLr.out.cell 1
      have q2 := HLr.out.cell 2
      have q3 := HLr.out.cell 3
      have q4 := HLr.out.cell 4
      simp only [List.getElem?_cons_zero, List.getElem?_cons_succ] at q0 q1 q2 q3 q4
      go_wp2_with fail
      have HT := Lib.hid (HLT.out Q (HQ.out.done hj1.out (by have := hjs.out; simp; omega)))
      clear g1' g2'
      refine (frame_any ⟨lh, lm, ls, lf, ld⟩ _ HCL.out).mono ?_
      rintro e w4 ⟨rfl, hb⟩
      obtain ⟨f1, f2⟩ := frmV_range HCL.out
      have f3 := dayV_le (⟨lh, lm, ls, lf, ld⟩ : Lab).d
      have HFR := Lib.hid (show frmV ⟨lh, lm, ls, lf, ld⟩ = frmV ⟨lh, lm, ls, lf, ld⟩ from rfl)
      replace HT := Lib.hid (show lineV ⟨false, dr, fi, ps⟩ s.data.toList = tailF ⟨false, dr, fi, ps⟩ ld (frmV ⟨lh, lm, ls, lf, ld⟩) Q from HT.out)
      have f4 : frmV ⟨lh, lm, ls, lf, ld⟩ < 2592000 := Int.lt_of_lt_of_le f2 f3
      generalize frmV ⟨lh, lm, ls, lf, ld⟩ = fr at *
      clear f2 f3 HFR q0 q1 q2 q3 q4
      have hjQ := Lib.hid (HQ.out.2.1)
      have zr4 : pb ≤ w4.heap.size := by have := HPB.out; have := G.out.size; have := hb.size; omega
      replace HO := Lib.hid (ownsRow_below HO.out hb (Nat.le_refl _))
      replace G := Lib.hid (G.out.trans (hb.mono (by have := HPB.out; have := G.out.size; omega)))
      replace HLB := Lib.hid (HLB.out.below G.out (by rw [HPB.out]; exact HLB.out.lt))
      have hb34 : Below w3.heap.size w3 w4 := by have := G.out; rw [HPB.out] at this; exact this
      have FBx := Lib.hid (show Below R w w4 by
        have h1 := HBW.out
        exact (FB2.out.mono (by omega)).trans (G.out.mono (by omega)))
      obtain ⟨gp, cp, rfl, hgp, hgp2⟩ := HO.out.form (by have := hj1.out; omega)
      obtain ⟨A0, c0, hh3, ho3⟩ := RD2.out
      have hh := hh3.ext hb34
      have ho := ownsRow_below ho3 hb34 (Nat.le_refl _)
      have HH := Lib.hid hh
      have HOR := Lib.hid ho
      have HNE0 := Lib.hid (show (Value.slice A0 (2 * ps.length) c0).ownBlock ≠ some gp from fun e => by
        have h1 := (ho3.lt gp e).2
        rw [← HPB.out] at h1
        omega)
      clear hb hh ho hh3 ho3 hb34 RD2 G FB2 HQ HLP HLT hsl
      simp only [] at HH HOR
      have q0 := HH.out.cell 0
      have q1 := HH.out.cell 1
      have q2 := HH.out.cell 2
      have q3 := HH.out.cell 3
      have y0 := HH.out.free 0
      have y1 := HH.out.free 1
      have y2 := HH.out.free 2
      have y3 := HH.out.free 3
      have lb4 := HLB.out.cell 4
      simp only [List.getElem?_cons_zero, List.getElem?_cons_succ] at q0 q1 q2 q3 lb4
      go_wp2_with fail
      have hne1 : R ≠ g1 := by
        intro e
        have h1 := lb4
        rw [← e, HH.out.cell 4] at h1
        simp at h1
      have hRp : R < pb := by have := HBW.out; omega
      have hRb : R < base := HBW.out.1
      go_cut [] (fun wx => Hid (Held wx R [.int .i64 fr, .slice A0 (2 * ps.length) c0, .bool ld, .bool true]) ∧ Hid (wx.ownsRow pb 5 1 (.slice (some ⟨gp, 0, none⟩) (2 * j) cp) (2 * j) ((flat Q).map byteV)) ∧ Hid (wx.ownsRow base 5 1 (.slice A0 (2 * ps.length) c0) (2 * ps.length) ((flat ps).map byteV)) ∧ Hid (Below R w wx) ∧ pb ≤ wx.heap.size)
      case first =>
        go_region_held3 (fun w9 => w9.cell? ⟨g1, 4, none⟩ = some (.bool ld)) (go_keep) (fail)
        all_goals
          go_wp2_with fail
          go_meet
          trace "V3"
          refine ⟨?_, ?_, ?_, ?_, ?_⟩
          · first | exact Lib.hid (((HH.out.set 0 (.int .i64 fr)).set 2 (.bool ld)).set 3 (.bool true)) | exact Lib.hid (((HH.out.set 0 (.int .i64 fr)).set 3 (.bool true)).set 2 (.bool ld)) | exact Lib.hid (((HH.out.set 2 (.bool ld)).set 0 (.int .i64 fr)).set 3 (.bool true)) | exact Lib.hid (((HH.out.set 2 (.bool ld)).set 3 (.bool true)).set 0 (.int .i64 fr)) | exact Lib.hid (((HH.out.set 3 (.bool true)).set 0 (.int .i64 fr)).set 2 (.bool ld)) | exact Lib.hid (((HH.out.set 3 (.bool true)).set 2 (.bool ld)).set 0 (.int .i64 fr)) | exact Lib.hid (held_drew (((HH.out.set 0 (.int .i64 fr)).set 2 (.bool ld)).set 3 (.bool true))) | exact Lib.hid (held_drew (((HH.out.set 0 (.int .i64 fr)).set 3 (.bool true)).set 2 (.bool ld))) | exact Lib.hid (held_drew (((HH.out.set 2 (.bool ld)).set 0 (.int .i64 fr)).set 3 (.bool true))) | exact Lib.hid (held_drew (((HH.out.set 2 (.bool ld)).set 3 (.bool true)).set 0 (.int .i64 fr))) | exact Lib.hid (held_drew (((HH.out.set 3 (.bool true)).set 0 (.int .i64 fr)).set 2 (.bool ld))) | exact Lib.hid (held_drew (((HH.out.set 3 (.bool true)).set 2 (.bool ld)).set 0 (.int .i64 fr)))
          · refine Lib.hid ?_
            repeat (first | exact HO.out | refine own_set ?_ hRp _ _ | refine own_drew ?_)
          · refine Lib.hid ?_
            repeat (first | exact HOR.out | refine own_set ?_ hRb _ _ | refine own_drew ?_)
          · refine Lib.hid ?_
            repeat (first | exact FBx.out | refine Below.setCell ?_ (by simp) _ | refine Below.drew ?_)
          · simpa using zr4
      case rest =>
        rename_i w4old
        obtain ⟨HH2, HO2, HOR2, FB2, zr2⟩ := hcut
        clear HH HO HOR FBx zr4 HLB lb4 hne1 q0 q1 q2 q3 y0 y1 y2 y3
        obtain ⟨w4, hw4⟩ : ∃ w4, w4 = wc := ⟨_, rfl⟩
        rw [← hw4] at HH2 HO2 HOR2 FB2 zr2 ⊢
        clear hw4
        obtain ⟨F0, hF0⟩ : ∃ F0, F0 = fr := ⟨_, rfl⟩
        have HF0 := Lib.hid hF0.symm
        have hF : 0 ≤ F0 ∧ F0 ≤ 2592000 := by omega
        have HH := Lib.hid (show Held w4 R [.int .i64 F0, .slice A0 (2 * ps.length) c0, .bool ld, .bool true] by rw [hF0]; exact HH2.out)
        have HO := HO2
        have HOR := HOR2
        have FBx := FB2
        have zr4 := zr2
        have HTF := Lib.hid (HT.out.trans (tailF_eq (show (if false = true then fi else fr) = F0 by rw [if_neg (by simp)]; exact HF0.out)))
        clear HH2 HO2 HOR2 FB2 zr2 hF0
        have HNE := Lib.hid (show (Value.slice A0 (2 * ps.length) c0).ownBlock ≠ some gp from HNE0.out)
        obtain ⟨q0, q1, q2, q3, y0, y1, y2, y3⟩ : w4.cell? ⟨R, 0, none⟩ = some (.int .i64 F0) ∧ w4.cell? ⟨R, 1, none⟩ = some (.slice A0 (2 * ps.length) c0) ∧ w4.cell? ⟨R, 2, none⟩ = some (.bool ld) ∧ w4.cell? ⟨R, 3, none⟩ = some (.bool true) ∧ w4.frozen? ⟨R, 0, none⟩ = false ∧ w4.frozen? ⟨R, 1, none⟩ = false ∧ w4.frozen? ⟨R, 2, none⟩ = false ∧ w4.frozen? ⟨R, 3, none⟩ = false := ⟨HH.out.cell 0, HH.out.cell 1, HH.out.cell 2, HH.out.cell 3, HH.out.free 0, HH.out.free 1, HH.out.free 2, HH.out.free 3⟩
        have s1 : IntKind.i64.wrap (fr - F0) = fr - F0 := IntWalk.i64_in _ (by omega)
        have s2 : IntKind.i64.wrap (fr - F0 - (ps.length : Int)) = fr - F0 - (ps.length : Int) := IntWalk.i64_in _ (by omega)
        go_wp2_with fail
        go_quiet (fail)
        generalize hw5 : w4.drewN _ = w5
        replace HH := Lib.hid (show Held w5 R _ by subst hw5; exact HH.out.drewN _)
        replace HO := Lib.hid (show w5.ownsRow _ _ _ _ _ _ by subst hw5; exact ownsRow_below HO.out (below_drewN (Below.refl _ _) _) (Nat.le_refl _))
        replace HOR := Lib.hid (show w5.ownsRow _ _ _ _ _ _ by subst hw5; exact ownsRow_below HOR.out (below_drewN (Below.refl _ _) _) (Nat.le_refl _))
        replace FBx := Lib.hid (show Below R w w5 by subst hw5; exact below_drewN FBx.out _)
        replace zr4 : pb ≤ w5.heap.size := by subst hw5; exact zr4
        clear hw5 q0 q1 q2 q3 y0 y1 y2 y3 s1 s2
        obtain ⟨q0, q1, q2, q3, y0, y1, y2, y3⟩ : w5.cell? ⟨R, 0, none⟩ = some (.int .i64 F0) ∧ w5.cell? ⟨R, 1, none⟩ = some (.slice A0 (2 * ps.length) c0) ∧ w5.cell? ⟨R, 2, none⟩ = some (.bool ld) ∧ w5.cell? ⟨R, 3, none⟩ = some (.bool true) ∧ w5.frozen? ⟨R, 0, none⟩ = false ∧ w5.frozen? ⟨R, 1, none⟩ = false ∧ w5.frozen? ⟨R, 2, none⟩ = false ∧ w5.frozen? ⟨R, 3, none⟩ = false := ⟨HH.out.cell 0, HH.out.cell 1, HH.out.cell 2, HH.out.cell 3, HH.out.free 0, HH.out.free 1, HH.out.free 2, HH.out.free 3⟩
        by_cases hgap : fr - F0 - (ps.length : Int) < 0
        · have HL := Lib.hid (HTF.out.trans (if_pos hgap))
          go_wp2_with fail
          go_ret2
          exact LineP.bad HL.out FBx.out
        · obtain ⟨gN, hgN⟩ : ∃ gN : Nat, fr - F0 - (ps.length : Int) = gN := ⟨(fr - F0 - (ps.length : Int)).toNat, by omega⟩
          have HGN := Lib.hid hgN
          have HT2 := Lib.hid (HTF.out.trans (if_neg hgap))
          have hgN3 : gN ≤ 2592000 := by omega
          rw [hgN]
          clear hgN hgap
          have hj3 : 5 * j ≤ 1000000 := by omega
          have HQl := hjQ
          by_cases hbig : 200000 < ps.length + gN + j
          · have HL := Lib.hid (show lineV ⟨false, dr, fi, ps⟩ s.data.toList = .error (1, 9) from HT2.out.trans (by rw [HGN.out, HQl.out, if_pos (by omega)]))
            go_wp2_with fail
            go_ret2
            exact LineP.bad HL.out FBx.out
          · have HL := Lib.hid (show lineV ⟨false, dr, fi, ps⟩ s.data.toList = .ok ⟨true, ld, F0, ps ++ nuls gN ++ Q⟩ from HT2.out.trans (by rw [HGN.out, HQl.out, if_neg (by omega)]; rfl))
            have hgN2 : gN ≤ 200000 := by omega
            go_wp2_with fail
            go_loopw [123] (fun x wr => ∃ (i : Nat) (A1 : Option Addr) (c1 : Nat), i ≤ 2 * gN ∧ x = .int .i64 i ∧ Hid (Held wr R [.int .i64 F0, .slice A1 (2 * ps.length + i) c1, .bool ld, .bool true]) ∧ Hid (wr.ownsRow base 5 1 (.slice A1 (2 * ps.length + i) c1) (2 * ps.length + i) ((flat ps ++ List.replicate i 128).map byteV)) ∧ Hid (wr.ownsRow pb 5 1 (.slice (some ⟨gp, 0, none⟩) (2 * j) cp) (2 * j) ((flat Q).map byteV)) ∧ Hid (Below R w wr) ∧ pb ≤ wr.heap.size ∧ Hid ((Value.slice A1 (2 * ps.length + i) c1).ownBlock ≠ some gp)) (fun x _ => 2 * gN - (intOf x).toNat)
            case atStart => exact ⟨0, A0, c0, by omega, rfl, HH, Lib.hid (by simpa using HOR.out), HO, FBx, zr4, HNE⟩
            case round =>
              obtain ⟨i, A1, c1, hi, rfl, HH, HOR, HO, FBx, zr4, HNE⟩ := hrel
              obtain ⟨q0, q1, q2, q3, y0, y1, y2, y3⟩ : wr.cell? ⟨R, 0, none⟩ = some (.int .i64 F0) ∧ wr.cell? ⟨R, 1, none⟩ = some (.slice A1 (2 * ps.length + i) c1) ∧ wr.cell? ⟨R, 2, none⟩ = some (.bool ld) ∧ wr.cell? ⟨R, 3, none⟩ = some (.bool true) ∧ wr.frozen? ⟨R, 0, none⟩ = false ∧ wr.frozen? ⟨R, 1, none⟩ = false ∧ wr.frozen? ⟨R, 2, none⟩ = false ∧ wr.frozen? ⟨R, 3, none⟩ = false := ⟨HH.out.cell 0, HH.out.cell 1, HH.out.cell 2, HH.out.cell 3, HH.out.free 0, HH.out.free 1, HH.out.free 2, HH.out.free 3⟩
              have hbz : base ≤ wr.heap.size := by have := HBW.out; omega
              by_cases hlt : i < 2 * gN
              · go_wp2_with (at_builtin; refine wpList_append_lies _ rfl _ _ 22 rfl base 5 i0 (.int .u8 0) 1 1 Tryd.underlying22 HI0.out.1 HI0.out.2.1 HI0.out.2.2.1 HI0.out.2.2.2 rfl (by decide) (.slice A1 (2 * ps.length + i) c1) (2 * ps.length + i) ((flat ps ++ List.replicate i 128).map byteV) rfl (HOR.out.alloc _) ⟨wr.heap.size, 0, none⟩ 1 1 [.int .u8 128] rfl rfl (CellsAt.all (by simp [CellsAt, go_sem])) (by simp [Value.oneCell']) (by omega) (by simp only [maxLen]; omega) (by omega) (by simp; omega) (wr.heap.size + 1) (by simp) ?_)
                intro g cap w6 ho hgr hat hlt6
                have FG := Lib.hid (hgr.size)
                have hRo : R < base := HBW.out.1
                have hRne : (Value.slice A1 (2 * ps.length + i) c1).ownBlock ≠ some R := fun e => by have := own_base HOR.out R e; omega
                have HH6 := Lib.hid (Held.grown (HH.out.alloc (.cells #[.int .u8 128] 5)) hgr hRne)
                have HO6 := Lib.hid (World.ownsRow.kept (HO.out.alloc (.cells #[.int .u8 128] 5)) hgr (.inr (Ne.symm HNE.out)))
                have FB6 := Lib.hid ((FBx.out.alloc (Nat.le_of_lt (HH.out.lt)) (.cells #[.int .u8 128] 5)).grown hgr (by simp; omega) (fun k hk => by have := own_base HOR.out k hk; omega))
                have zr6 : pb ≤ w6.heap.size := by have := FG.out; simp at this; omega
                have HNE6 := Lib.hid (show (Value.slice (some ⟨g, 0, none⟩) (2 * ps.length + (i + 1)) cap).ownBlock ≠ some gp from fun e => by
                  simp [Value.ownBlock] at e
                  rcases hat with h | h
                  · exact HNE.out (by rw [h, e])
                  · have := (HO.out.lt gp rfl).2
                    omega)
                have HOR6 := Lib.hid (show w6.ownsRow base 5 1 (.slice (some ⟨g, 0, none⟩) (2 * ps.length + (i + 1)) cap) (2 * ps.length + (i + 1)) ((flat ps ++ List.replicate (i + 1) 128).map byteV) by
                  have e9 : List.map byteV (flat ps ++ List.replicate (i + 1) (128 : UInt8)) = List.map byteV (flat ps) ++ (List.replicate i (byteV 128) ++ [Value.int .u8 128]) := by rw [List.replicate_succ']; simp; rfl
                  rw [e9, ← Nat.add_assoc]
                  simpa using ho)
                clear ho hgr hat q0 q1 q2 q3 y0 y1 y2 y3 HH HO HOR HNE FBx zr4
                obtain ⟨q0, q1, q2, q3, y0, y1, y2, y3⟩ : w6.cell? ⟨R, 0, none⟩ = some (.int .i64 F0) ∧ w6.cell? ⟨R, 1, none⟩ = some (.slice A1 (2 * ps.length + i) c1) ∧ w6.cell? ⟨R, 2, none⟩ = some (.bool ld) ∧ w6.cell? ⟨R, 3, none⟩ = some (.bool true) ∧ w6.frozen? ⟨R, 0, none⟩ = false ∧ w6.frozen? ⟨R, 1, none⟩ = false ∧ w6.frozen? ⟨R, 2, none⟩ = false ∧ w6.frozen? ⟨R, 3, none⟩ = false := ⟨HH6.out.cell 0, HH6.out.cell 1, HH6.out.cell 2, HH6.out.cell 3, HH6.out.free 0, HH6.out.free 1, HH6.out.free 2, HH6.out.free 3⟩
                go_wp2_with fail
                go_roundw
                case rel => exact ⟨i + 1, some ⟨g, 0, none⟩, cap, by omega, by go_num, Lib.hid (HH6.out.set 1 _), Lib.hid (own_set HOR6.out hRo 1 _), Lib.hid (own_set HO6.out (by have := HBW.out; omega) 1 _), Lib.hid (FB6.out.setCell (by simp) _), by simpa using zr6, HNE6⟩
                case measure => simp [intOf]; omega
              · obtain rfl : i = 2 * gN := by omega
                obtain ⟨A9, c9, e9, r9, _⟩ := row_of_own HO.out
                cases e9
                have HN1 := Lib.hid (show ((flat Q).map byteV).length = 2 * j * 1 by have := HQl.out; simp [flat_len]; omega)
                have HN2 := Lib.hid (row_add r9)
                have HN3 := Lib.hid (show ∀ u ∈ (flat Q).map byteV, u.oneCell' = true by
                  intro u hu
                  obtain ⟨x, _, rfl⟩ := List.mem_map.1 hu
                  rfl)
                clear r9
                go_wp2_with (at_builtin; refine wpList_append_lies _ rfl _ _ 22 rfl base 5 i0 (.int .u8 0) 1 1 Tryd.underlying22 HI0.out.1 HI0.out.2.1 HI0.out.2.2.1 HI0.out.2.2.2 rfl (by decide) (.slice A1 (2 * ps.length + 2 * gN) c1) (2 * ps.length + 2 * gN) ((flat ps ++ List.replicate (2 * gN) 128).map byteV) rfl HOR.out ⟨gp, 0, none⟩ (2 * j) cp ((flat Q).map byteV) rfl HN1.out HN2.out HN3.out (by have := hj1.out; omega) (by simp only [maxLen]; omega) (by omega) hbz (wr.heap.size) rfl ?_)
                intro g cap w6 ho hgr hat hlt6
                have hRo : R < base := HBW.out.1
                have hRne : (Value.slice A1 (2 * ps.length + 2 * gN) c1).ownBlock ≠ some R := fun e => by have := own_base HOR.out R e; omega
                have HH6 := Lib.hid (Held.grown HH.out hgr hRne)
                have FB6 := Lib.hid (FBx.out.grown hgr (Nat.le_of_lt (HH.out.lt)) (fun k hk => by have := own_base HOR.out k hk; omega))
                have HOR6 := Lib.hid (show w6.ownsRow base 5 1 (.slice (some ⟨g, 0, none⟩) (2 * (ps ++ nuls gN ++ Q).length) cap) (2 * (ps ++ nuls gN ++ Q).length) ((flat (ps ++ nuls gN ++ Q)).map byteV) by
                  have e1 : 2 * (ps ++ nuls gN ++ Q).length = 2 * ps.length + 2 * gN + 2 * j := by have := HQl.out; simp [nuls]; omega
                  have e2 : (flat (ps ++ nuls gN ++ Q)).map byteV = (flat ps ++ List.replicate (2 * gN) 128).map byteV ++ (flat Q).map byteV := by
                    rw [flat_app, flat_app, flat_nuls, List.map_append]
                  rw [e1, e2]
                  simpa using ho)
                have ecap : 2 * ps.length + 2 * gN + 2 * j = 2 * (ps ++ nuls gN ++ Q).length := by have := HQl.out; simp [nuls]; omega
                rw [ecap]
                generalize (ps ++ nuls gN ++ Q) = ps2 at *
                clear ecap ho hgr hat q0 q1 q2 q3 y0 y1 y2 y3 HH HO HOR HNE FBx zr4
                obtain ⟨q0, q1, q2, q3, y0, y1, y2, y3⟩ : w6.cell? ⟨R, 0, none⟩ = some (.int .i64 F0) ∧ w6.cell? ⟨R, 1, none⟩ = some (.slice A1 (2 * ps.length + 2 * gN) c1) ∧ w6.cell? ⟨R, 2, none⟩ = some (.bool ld) ∧ w6.cell? ⟨R, 3, none⟩ = some (.bool true) ∧ w6.frozen? ⟨R, 0, none⟩ = false ∧ w6.frozen? ⟨R, 1, none⟩ = false ∧ w6.frozen? ⟨R, 2, none⟩ = false ∧ w6.frozen? ⟨R, 3, none⟩ = false := ⟨HH6.out.cell 0, HH6.out.cell 1, HH6.out.cell 2, HH6.out.cell 3, HH6.out.free 0, HH6.out.free 1, HH6.out.free 2, HH6.out.free 3⟩
                go_wp2_with fail
                go_ret2
                exact LineP.good HL.out ⟨some ⟨g, 0, none⟩, cap, HH6.out.set 1 _, own_set HOR6.out hRo 1 _⟩ (FB6.out.setCell (by simp) _)

theorem line_any (s : ByteArray) (r : Rd) (R base : Nat) (w : World) (hsm : s.size ≤ 1000000) (hr : RdAt w R base r) (hb : R < base ∧ base ≤ w.heap.size) (hfi : 0 ≤ r.first ∧ r.first ≤ 2592000) (hps : r.ps.length ≤ 200000) :
    Calls Tryd.prog 39 #[.pointer (some ⟨R, 0, none⟩), .string s] w (LineP s r R base w) := by
  by_cases hs : s.size < 11
  · exact line_short s r R base w hs
  · cases hl : labR (s.data.toList.take 11) with
    | none => exact line_lab s r R base w (by omega) hl (by omega)
    | some L =>
      obtain ⟨lh, lm, ls, lf, ld⟩ := L
      obtain ⟨bg, dr, fi, ps⟩ := r
      cases bg
      · exact line_n s lh lm ls lf ld fi ps R base w (by omega) hsm hl dr hr hb hfi hps
      · by_cases hd : ld = dr
        · subst hd
          exact line_b s lh lm ls lf ld fi ps R base w (by omega) hsm hl hr hb hfi hps
        · exact line_type s lh lm ls lf ld fi ps R base w (by omega) hsm hl dr (by cases ld <;> cases dr <;> simp_all) hr hb
end Go.Proofs.YtbliilemjkjimaaDoor
