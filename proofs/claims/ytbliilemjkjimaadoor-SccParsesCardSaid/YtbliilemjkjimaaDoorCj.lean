/-
  The contracts of digit and pair of layer 31. Their conditions are their hypotheses.
-/
import Derived.Test.YtbliilemjkjimaaDoorCe
import Derived.Test.YtbliilemjkjimaaDoorCg
import Derived.Laws.BitsAllLaws
import Derived.Laws.BitsLemmas
namespace Go.Proofs.YtbliilemjkjimaaDoor
open Go.RowKit Go.Joins
set_option linter.unusedVariables false
set_option linter.unusedSimpArgs false
def digV (c : UInt8) : Int := match hv c with | some v => v | none => -1
def digL : List UInt8 := [48, 49, 50, 51, 52, 53, 54, 55, 56, 57, 97, 98, 99, 100, 101, 102]
theorem digV_lt (c : UInt8) : -1 ≤ digV c ∧ digV c ≤ 15 := by
  unfold digV hv
  have := c.toNat_lt
  split
  · rename_i v h
    split at h
    · cases h; omega
    · split at h
      · cases h; omega
      · cases h
  · omega
theorem dig_all : (List.range 256).all (fun n => decide (Lib.indexByte digL (UInt8.ofNat n) = digV (UInt8.ofNat n))) = true := by kernel_rfl
theorem dig_eq (c : UInt8) : Lib.indexByte digL c = digV c := by
  have := List.all_eq_true.1 dig_all c.toNat (List.mem_range.2 c.toNat_lt)
  simpa using this
theorem digV_neg {c : UInt8} (h : digV c < 0) : hv c = none := by
  unfold digV at h
  split at h
  · omega
  · assumption
theorem digV_pos {c : UInt8} (h : 0 ≤ digV c) : hv c = some (digV c).toNat ∧ (digV c).toNat < 16 ∧ digV c = ((digV c).toNat : Int) := by
  have h2 := (digV_lt c).2
  cases hh : hv c with
  | none => have e : digV c = -1 := by unfold digV; rw [hh]
            omega
  | some v =>
    have e : digV c = (v : Int) := by unfold digV; rw [hh]
    rw [e]
    exact ⟨by simp, by omega, by simp⟩
theorem or16 {v0 v1 : Nat} (h0 : v0 < 16) (h1 : v1 < 16) : bits .or .i64 ((v0 : Int) * 16) (v1 : Int) % 256 = (((UInt8.ofNat (16 * v0 + v1)).toNat : Nat) : Int) := by
  have e1 : (BitVec.ofInt 64 ((v0 : Int) * 16)).toNat = v0 * 16 := by
    rw [show ((v0 : Int) * 16) = ((v0 * 16 : Nat) : Int) from by omega, BitVec.ofInt_natCast, BitVec.toNat_ofNat]
    omega
  have e2 : (BitVec.ofInt 64 (v1 : Int)).toNat = v1 := by
    rw [BitVec.ofInt_natCast, BitVec.toNat_ofNat]
    omega
  have e3 : v0 * 16 ||| v1 = 16 * v0 + v1 := by
    have := Nat.two_pow_add_eq_or_of_lt (i := 4) (b := v1) (by omega) v0
    rw [Nat.mul_comm v0 16]
    exact this.symm
  have e4 : bits .or .i64 ((v0 : Int) * 16) (v1 : Int) = ((16 * v0 + v1 : Nat) : Int) := by
    show IntKind.i64.wrap ((BitVec.ofInt 64 ((v0 : Int) * 16) ||| BitVec.ofInt 64 (v1 : Int)).toNat : Int) = _
    rw [BitVec.toNat_or, e1, e2, e3, IntKind.wrap_i64]
    omega
  rw [e4, UInt8.toNat_ofNat']
  omega
theorem digit_any (c : UInt8) (w : World) : Calls Tryd.prog 74 #[.int .u8 c.toNat] w fun e w' => e = .returned (.int .i64 (digV c)) ∧ w = w' := by
  have H := Lib.hid (dig_eq c)
  go_enter Tryd.func74, Tryd.ntmps74
  go_wp2_with fail
  refine (Tryd.strings_IndexByte _ _ _).mono ?_
  rintro e w' ⟨rfl, rfl⟩
  rw [show Lib.indexByte (⟨#[48, 49, 50, 51, 52, 53, 54, 55, 56, 57, 97, 98, 99, 100, 101, 102]⟩ : ByteArray).data.toList ((c.toNat : Int).toNat.toUInt8) = digV c from by
    rw [← H.out]
    congr 1
    simp]
  go_wp2_with fail
  go_ret
  exact ⟨rfl, rfl⟩
/-- The pair at the beginning of a text. -/
def prP (s : ByteArray) : Option Pr := if 5 ≤ s.size ∧ bt s 0 = 32 then (match bv (bt s 1) (bt s 2), bv (bt s 3) (bt s 4) with | some u, some v => some (u, v) | _, _ => none) else none
def PairP (s : ByteArray) (B : Nat) (w : World) (e : Ending) (w' : World) : Prop :=
  (match prP s with
    | some p => e = .returned (.tuple #[.int .u8 p.1.toNat, .int .u8 p.2.toNat, .bool true])
    | none => e = .returned (.tuple #[.int .u8 0, .int .u8 0, .bool false])) ∧ Below B w w'
theorem PairP.no {s : ByteArray} {B : Nat} {w w' : World} (h : prP s = none) (hb : Below B w w') : PairP s B w (.returned (.tuple #[.int .u8 0, .int .u8 0, .bool false])) w' := by
  refine ⟨?_, hb⟩
  rw [h]
theorem PairP.yes {s : ByteArray} {B : Nat} {w w' : World} {p : Pr} (h : prP s = some p) (hb : Below B w w') : PairP s B w (.returned (.tuple #[.int .u8 p.1.toNat, .int .u8 p.2.toNat, .bool true])) w' := by
  refine ⟨?_, hb⟩
  rw [h]
theorem pair_short (s : ByteArray) (w : World) (hs : s.size < 5) :
    Calls Tryd.prog 65 #[.string s] w (PairP s w.heap.size w) := by
  have HN := Lib.hid (show prP s = none by rw [prP, if_neg (by omega)])
  go_enter Tryd.func65, Tryd.ntmps65
  go_wp2_with fail
  go_ret3
  exact PairP.no HN.out (Below.refl _ _)
theorem pair_no (s : ByteArray) (w : World) (hs : 5 ≤ s.size) (hl : s.size ≤ 1000000000) (h0 : bt s 0 ≠ 32) :
    Calls Tryd.prog 65 #[.string s] w (PairP s w.heap.size w) := by
  have HN := Lib.hid (show prP s = none by rw [prP, if_neg (fun h => h0 h.2)])
  have ix0 := idx_str (s := s) (x := 0) (j := 0) rfl (by omega)
  have t0 : (((bt s 0).toNat : Int) != 32) = true := bne_byte h0
  generalize bt s 0 = b0 at *
  clear h0
  go_enter Tryd.func65, Tryd.ntmps65
  go_wp2_with fail
  go_ret3
  exact PairP.no HN.out (Below.refl _ _)
theorem pr_bad {s : ByteArray} {k : Nat} (hk : k < 4) (h : digV (bt s (1 + k)) < 0) : (match bv (bt s 1) (bt s 2), bv (bt s 3) (bt s 4) with | some u, some v => some (u, v) | _, _ => (none : Option Pr)) = none := by
  have hn := digV_neg h
  have : k = 0 ∨ k = 1 ∨ k = 2 ∨ k = 3 := by omega
  rcases this with rfl | rfl | rfl | rfl
  · have : bv (bt s 1) (bt s 2) = none := by rw [bv, show hv (bt s 1) = none from hn]
    rw [this]
  · have : bv (bt s 1) (bt s 2) = none := by rw [bv, show hv (bt s 2) = none from hn]; cases hv (bt s 1) <;> rfl
    rw [this]
  · have : bv (bt s 3) (bt s 4) = none := by rw [bv, show hv (bt s 3) = none from hn]
    rw [this]; cases bv (bt s 1) (bt s 2) <;> rfl
  · have : bv (bt s 3) (bt s 4) = none := by rw [bv, show hv (bt s 4) = none from hn]; cases hv (bt s 3) <;> rfl
    rw [this]; cases bv (bt s 1) (bt s 2) <;> rfl
theorem bv_good {a b : UInt8} (ha : 0 ≤ digV a) (hb : 0 ≤ digV b) : bv a b = some (UInt8.ofNat (16 * (digV a).toNat + (digV b).toNat)) := by
  rw [bv, (digV_pos ha).1, (digV_pos hb).1]
def arrD (s : ByteArray) (k : Nat) : List Value := [.int .i64 (if 0 < k then digV (bt s 1) else 0), .int .i64 (if 1 < k then digV (bt s 2) else 0), .int .i64 (if 2 < k then digV (bt s 3) else 0), .int .i64 (if 3 < k then digV (bt s 4) else 0)]
theorem arrD_set (s : ByteArray) {k : Nat} (hk : k < 4) : (arrD s k).set k (.int .i64 (digV (bt s (1 + k)))) = arrD s (k + 1) := by
  have : k = 0 ∨ k = 1 ∨ k = 2 ∨ k = 3 := by omega
  rcases this with rfl | rfl | rfl | rfl <;> rfl
theorem arrD_get (s : ByteArray) {k : Nat} (hk : k < 4) : (arrD s k)[k]? = some (.int .i64 0) := by
  have : k = 0 ∨ k = 1 ∨ k = 2 ∨ k = 3 := by omega
  rcases this with rfl | rfl | rfl | rfl <;> rfl
set_option maxHeartbeats 1000000 in
theorem pair_on (s : ByteArray) (w : World) (hs : 5 ≤ s.size) (hl : s.size ≤ 1000000000) (h0 : bt s 0 = 32) :
    Calls Tryd.prog 65 #[.string s] w (PairP s w.heap.size w) := by
  have HP := Lib.hid (show prP s = (match bv (bt s 1) (bt s 2), bv (bt s 3) (bt s 4) with | some u, some v => some (u, v) | _, _ => none) by rw [prP, if_pos ⟨hs, h0⟩])
  have ix0 : ∀ w, (Instr.index 9 (.string s) (.int .i64 0)).run Tryd.prog w = .ok (.int .u8 32) w := fun w => by have := idx_str (s := s) (x := 0) (j := 0) rfl (by omega) w; rw [h0] at this; exact this
  clear h0
  obtain ⟨B, hB⟩ : ∃ B, B = w.heap.size := ⟨_, rfl⟩
  rw [← hB]
  go_enter Tryd.func65, Tryd.ntmps65
  go_wp2_with fail
  rw [← hB]
  generalize hw1 : World.alloc _ _ = w1
  have HG := Lib.hid (show Held w1 B (arrD s 0) by subst hw1; exact Held.new hB)
  have FB := Lib.hid (show Below B w w1 by subst hw1; subst hB; exact below_one _ _)
  clear hw1 hB
  go_loopw [15] (fun i wr => ∃ k : Nat, k ≤ 4 ∧ i = .int .i64 k ∧ Hid (Held wr B (arrD s k)) ∧ Hid (Below B w wr) ∧ Hid (∀ j, j < k → 0 ≤ digV (bt s (1 + j)))) (fun i _ => 4 - (intOf i).toNat)
  case atStart => exact ⟨0, by omega, rfl, HG, FB, Lib.hid (fun j h => by omega)⟩
  case round =>
    obtain ⟨k, hk, rfl, HG, FB, HD⟩ := hrel
    by_cases hlt : k < 4
    · have ixa := idx_str (s := s) (x := 1 + (k : Int)) (j := 1 + k) (by omega) (by omega)
      have ixb := idx_str (s := s) (x := (k : Int) + 1) (j := 1 + k) (by omega) (by omega)
      have HS := Lib.hid (arrD_set s hlt)
      have cg : wr.cell? ⟨B, k, none⟩ = some (.int .i64 0) := by rw [HG.out.cell k]; exact arrD_get s hlt
      have cf := HG.out.free k
      have hk0 : (0 : Int) ≤ (k : Int) := by omega
      have hk4 : (k : Int) < 4 := by omega
      obtain ⟨d1, d2⟩ := digV_lt (bt s (1 + k))
      have HC := Lib.hid (digit_any (bt s (1 + k)))
      go_wp2_with fail
      refine (HC.out _).mono ?_
      rintro e w2 ⟨rfl, rfl⟩
      by_cases hneg : digV (bt s (1 + k)) < 0
      · go_wp2_with fail
        have HN := Lib.hid (HP.out.trans (pr_bad hlt hneg))
        go_ret3
        exact PairP.no HN.out (FB.out.setCell (p := ⟨B, k, none⟩) (by simp) _)
      · go_wp2_with fail
        go_roundw
        case rel => exact ⟨k + 1, by omega, by go_num, Lib.hid (by rw [← HS.out]; exact HG.out.set k _), Lib.hid (FB.out.setCell (p := ⟨B, k, none⟩) (by simp) _), Lib.hid (fun j hj => by
          by_cases e : j = k
          · rw [e]; omega
          · exact HD.out j (by omega))⟩
        case measure => simp [intOf]; omega
    · have ek : k = 4 := by omega
      subst ek
      have HG4 := Lib.hid (show Held wr B [.int .i64 (digV (bt s 1)), .int .i64 (digV (bt s 2)), .int .i64 (digV (bt s 3)), .int .i64 (digV (bt s 4))] from HG.out)
      have p0 := HG4.out.cell 0
      have p1 := HG4.out.cell 1
      have p2 := HG4.out.cell 2
      have p3 := HG4.out.cell 3
      simp only [List.getElem?_cons_zero, List.getElem?_cons_succ] at p0 p1 p2 p3
      obtain ⟨e1, l1, m1⟩ := digV_pos (HD.out 0 (by omega))
      obtain ⟨e2, l2, m2⟩ := digV_pos (HD.out 1 (by omega))
      obtain ⟨e3, l3, m3⟩ := digV_pos (HD.out 2 (by omega))
      obtain ⟨e4, l4, m4⟩ := digV_pos (HD.out 3 (by omega))
      have HQ := Lib.hid (HP.out.trans (by rw [bv_good (HD.out 0 (by omega)) (HD.out 1 (by omega)), bv_good (HD.out 2 (by omega)) (HD.out 3 (by omega))]))
      simp only [Nat.reduceAdd] at m1 m2 m3 m4 l1 l2 l3 l4 HQ
      rw [m1] at p0
      rw [m2] at p1
      rw [m3] at p2
      rw [m4] at p3
      clear e1 e2 e3 e4 m1 m2 m3 m4 HD HG HG4
      generalize (digV (bt s 1)).toNat = v0 at *
      generalize (digV (bt s 2)).toNat = v1 at *
      generalize (digV (bt s 3)).toNat = v2 at *
      generalize (digV (bt s 4)).toNat = v3 at *
      go_wp2_with fail
      go_quiet (fail)
      have FB2 := Lib.hid (below_drewN FB.out nq)
      go_wp2_with fail
      go_ret3
      show PairP s B w (.returned (.tuple #[.int .u8 (bits .or .i64 ((v0 : Int) * 16) (v1 : Int) % 256), .int .u8 (bits .or .i64 ((v2 : Int) * 16) (v3 : Int) % 256), .bool true])) _
      rw [or16 l1 l2, or16 l3 l4]
      exact PairP.yes HQ.out FB2.out
theorem pair_any (s : ByteArray) (w : World) (hl : s.size ≤ 1000000000) :
    Calls Tryd.prog 65 #[.string s] w (PairP s w.heap.size w) := by
  by_cases hs : 5 ≤ s.size
  · by_cases h0 : bt s 0 = 32
    · exact pair_on s w hs hl h0
    · exact pair_no s w hs hl h0
  · exact pair_short s w (by omega)
end Go.Proofs.YtbliilemjkjimaaDoor
