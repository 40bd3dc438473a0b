/-
  Characters and texts. The conditions of the contracts are their hypotheses.
-/
import Derived.Test.YtmopjhbfobmklaaGreatDoorMBa
import Derived.Lib.OthersKept
import Derived.Lib.RuneCount
import Derived.Test.YtmopjhbfobmklaaGreatDoorMCm
import Derived.Test.YtmopjhbfobmklaaGreatDoorShelg
import Derived.Shelf.Unicode.DecodeSlow
set_option maxRecDepth 100000
set_option maxHeartbeats 40000000
namespace Go.Proofs.YtmopjhbfobmklaaGreatDoor
open Go.RowKit Go.Joins
set_option linter.unusedVariables false
set_option linter.unusedSimpArgs false
theorem Below.more (w : World) (o : Obj) : Below w.heap.size w (w.alloc o) := (Below.refl _ _).alloc (Nat.le_refl _) _
def rnsF (s : ByteArray) : Nat → Nat → List Nat
 | 0, _ => []
 | f + 1, pos => if pos < s.size then (Utf8.decode s pos).1 :: rnsF s f (pos + (Utf8.decode s pos).2) else []
def rns (s : ByteArray) : List Nat := rnsF s s.size 0
theorem rnsF_end (s : ByteArray) (f pos : Nat) (h : ¬ pos < s.size) : rnsF s f pos = [] := by cases f <;> simp [rnsF, h]
theorem rnsF_len (s : ByteArray) : ∀ f pos, (rnsF s f pos).length = Lib.runeCountFrom s f pos
 | 0, _ => rfl
 | f + 1, pos => by
  unfold rnsF Lib.runeCountFrom
  split
  ·rw [List.length_cons, rnsF_len s f]; omega
  rfl
theorem rns_len (s : ByteArray) : (rns s).length = Lib.runeCount s := rnsF_len s _ _
def plcF : List Nat → Int → Nat → Int
 | [], _, _ => -1
 | x :: t, r, n => if (x : Int) = r then n else plcF t r (n + 1)
theorem plcF_range : ∀ (L : List Nat) (r : Int) (n : Nat), plcF L r n = -1 ∨ (n : Int) ≤ plcF L r n ∧ plcF L r n < n + L.length
 | [], _, _ => .inl rfl
 | x :: t, r, n => by
  unfold plcF
  split
  ·exact .inr ⟨Int.le_refl _, by rw [List.length_cons]; omega⟩
  rcases plcF_range t r (n + 1) with h | h
  ·exact .inl h
  exact .inr ⟨by omega, by rw [List.length_cons]; omega⟩
def allL : List UInt8 := [
 32, 33, 34, 35, 36, 37, 38, 39, 40, 41, 42, 43, 44, 45, 46, 47, 48, 49, 50, 51, 52, 53, 54, 55, 56, 57, 58, 59, 60, 61, 62, 63, 64, 65, 66, 67, 68, 69, 70, 71,
 72, 73, 74, 75, 76, 77, 78, 79, 80, 81, 82, 83, 84, 85, 86, 87, 88, 89, 90, 91, 92, 93, 94, 95, 96, 97, 98, 99, 100, 101, 102, 103, 104, 105, 106, 107, 108, 109, 110, 111,
 112, 113, 114, 115, 116, 117, 118, 119, 120, 121, 122, 123, 124, 125, 126, 194, 161, 194, 162, 194, 163, 194, 164, 194, 165, 194, 166, 194, 167, 194, 169, 194, 171, 194, 174, 194, 176, 194, 183, 194,
 187, 194, 189, 194, 191, 195, 128, 195, 129, 195, 130, 195, 131, 195, 132, 195, 133, 195, 134, 195, 135, 195, 136, 195, 137, 195, 138, 195, 139, 195, 140, 195, 141, 195, 142, 195, 143, 195, 145, 195,
 146, 195, 147, 195, 148, 195, 149, 195, 150, 195, 152, 195, 153, 195, 154, 195, 155, 195, 156, 195, 159, 195, 160, 195, 161, 195, 162, 195, 163, 195, 164, 195, 165, 195, 166, 195, 167, 195, 168, 195,
 169, 195, 170, 195, 171, 195, 172, 195, 173, 195, 174, 195, 175, 195, 177, 195, 178, 195, 179, 195, 180, 195, 181, 195, 182, 195, 184, 195, 185, 195, 186, 195, 187, 195, 188, 197, 146, 197, 147, 226,
 128, 148, 226, 128, 152, 226, 128, 153, 226, 128, 156, 226, 128, 157, 226, 128, 162, 226, 128, 166, 226, 132, 162, 226, 153, 170]
def idxV (r : Int) : Int := if 32 ≤ r ∧ r ≤ 126 then r - 32 else plcF (rns (sB allL)) r 0
theorem allL_runes : (rns (sB allL)).length ≤ 300 := by
 have := Lib.runeCount_le (sB allL)
 rw [rns_len]
 have e : (sB allL).size = 266 := by kernel_rfl
 omega
theorem allL_small : (sB allL).size ≤ 100000 := of_decide_eq_true (by kernel_rfl)
theorem idxV_range (r : Int) : idxV r = -1 ∨ 0 ≤ idxV r ∧ idxV r ≤ 300 := by
 unfold idxV
 split
 ·exact .inr ⟨by omega, by omega⟩
 have := allL_runes
 rcases plcF_range (rns (sB allL)) r 0 with h | h
 ·exact .inl h
 exact .inr ⟨by omega, by omega⟩
theorem place_any (s : ByteArray) (r : Int) (w : World) (hs : s.size ≤ 100000) :
  Calls Tryz.prog 148 #[.string s, .int .i32 r] w fun e w' => e = .returned (.int .i64 (plcF (rns s) r 0)) ∧ Below w.heap.size w w' := by
 go_enter Tryz.func148, Tryz.ntmps148
 go_wp2_with fail
 go_loopw [5] (fun n w' => ∃ (pos b k : Nat), w' = w.iter s pos ∧ n = .int .i64 k ∧ k ≤ pos ∧ s.size ≤ pos + b ∧ Hid (plcF (rnsF s b pos) r k = plcF (rns s) r 0)) (fun _ w' => s.size - w'.iterPos w.heap.size)
 case atStart => exact ⟨0, s.size, 0, rfl, rfl, Nat.le_refl _, by omega, ι rfl⟩
 case round =>
 obtain ⟨pos, b, k, rfl, rfl, hk, hb, H⟩ := hrel
 by_cases hp : pos < s.size
 ·have hnx : ∀ ty, (Instr.next (.pointer (some ⟨w.heap.size, 0, none⟩)) true ty).run Tryz.prog (w.iter s pos) = _ := fun ty => run_next_any w s pos ty hp
  have hwd := Lib.decode_width_pos s pos hp
  obtain ⟨b, rfl⟩ : ∃ c, b = c + 1 := ⟨b - 1, by omega⟩
  have H2 := ι (show (if ((Utf8.decode s pos).1 : Int) = r then (k : Int) else plcF (rnsF s b (pos + (Utf8.decode s pos).2)) r (k + 1)) = plcF (rns s) r 0 by
   rw [← H.out]
   show _ = plcF (if pos < s.size then _ else _) r k
   rw [if_pos hp]
   rfl)
  generalize (Utf8.decode s pos).1 = x at *
  generalize (Utf8.decode s pos).2 = d at *
  by_cases hx : (x : Int) = r
  ·have H3 := ι (show (k : Int) = plcF (rns s) r 0 by rw [← H2.out, if_pos hx])
   have t0 : ((x : Int) == r) = true := by simpa using hx
   clear hx H H2
   go_wp2_with fail
   go_ret
   exact ⟨by rw [← H3.out]; rfl, Below.more _ _⟩
  have H3 := ι (show plcF (rnsF s b (pos + d)) r (k + 1) = plcF (rns s) r 0 by rw [← H2.out, if_neg hx])
  have t0 : ((x : Int) == r) = false := by simpa using hx
  clear hx H H2
  go_wp2_with fail
  go_roundw
  case rel => exact ⟨pos + d, b, k + 1, rfl, by go_num, by omega, by omega, H3⟩
  case measure => simp; omega
 have hnx : ∀ ty, (Instr.next (.pointer (some ⟨w.heap.size, 0, none⟩)) true ty).run Tryz.prog (w.iter s pos) = _ := fun ty => run_next_end w s pos ty hp
 have H3 := ι (show (-1 : Int) = plcF (rns s) r 0 by rw [← H.out, rnsF_end s b pos hp]; rfl)
 go_wp2_with fail
 go_ret
 exact ⟨by rw [← H3.out]; rfl, Below.more _ _⟩
theorem index_any (r : Int) (w : World) (h0 : -2147483648 ≤ r) (h1 : r ≤ 2147483647) :
  Calls Tryz.prog 99 #[.int .i32 r] w fun e w' => e = .returned (.int .i64 (idxV r)) ∧ Below w.heap.size w w' := by
 by_cases h : 32 ≤ r
 ·by_cases h2 : r ≤ 126
  ·have H := ι (show r - 32 = idxV r by unfold idxV; rw [if_pos ⟨h, h2⟩])
   go_enter Tryz.func99, Tryz.ntmps99
   go_wp2_with fail
   go_ret
   refine ⟨?_, Below.refl _ _⟩
   rw [← H.out]
   congr 2
  have H := ι (show plcF (rns (sB allL)) r 0 = idxV r by unfold idxV; rw [if_neg (by omega)])
  go_enter Tryz.func99, Tryz.ntmps99
  go_wp2_with fail
  refine (place_any (sB allL) r w allL_small).mono ?_
  rintro e w1 ⟨rfl, hb⟩
  rw [H.out]
  go_wp2_with fail
  go_ret
  exact ⟨rfl, hb⟩
 have H := ι (show plcF (rns (sB allL)) r 0 = idxV r by unfold idxV; rw [if_neg (by omega)])
 go_enter Tryz.func99, Tryz.ntmps99
 go_wp2_with fail
 refine (place_any (sB allL) r w allL_small).mono ?_
 rintro e w1 ⟨rfl, hb⟩
 rw [H.out]
 go_wp2_with fail
 go_ret
 exact ⟨rfl, hb⟩
def valV (s : ByteArray) : Bool := Lib.validD s.data.toList && (rns s).all (fun r => decide (0 ≤ idxV r))
def lenV (s : ByteArray) : Int := if valV s = true then (Lib.runeCount s : Int) else -1
structure Wt (w : World) : Prop where
 u8 : Lib.Utf8Tabs 0 1 w
 mx : ∃ m, w.cell? ⟨2, 0, none⟩ = some (.int .i64 m)
theorem Wt.on {w w' : World} (h : Wt w) (hb : Below w.heap.size w w') : Wt w' := by
 obtain ⟨h1, m, h2⟩ := h
 exact ⟨Utf8Tabs_below h1 hb, m, (hb.cell (World.block_lt_of_cell? w _ h2)).trans h2⟩
theorem valid_text (s : ByteArray) (w : World) (hs : s.size ≤ 2000000) (hw : Wt w) :
  Calls Tryz.prog 63 #[.string s] w fun e w' => e = .returned (.bool (valV s)) ∧ Below w.heap.size w w' := by
 obtain ⟨G, hG⟩ : ∃ G, G = w.heap.size := ⟨_, rfl⟩
 have HG := ι hG
 have HV := ι (Tryz.utf8_ValidString s w (by omega) hw.u8)
 obtain ⟨v, hv⟩ : ∃ v, v = Lib.validD s.data.toList := ⟨_, rfl⟩
 rw [← hv] at HV
 have HE := ι (show valV s = (v && (rns s).all (fun r => decide (0 ≤ idxV r))) by rw [hv]; rfl)
 rw [HE.out]
 clear hv HE
 cases v with
 | false =>
  go_enter Tryz.func63, Tryz.ntmps63
  go_wp2_with fail
  refine HV.out.mono ?_
  rintro e w1 ⟨rfl, hb⟩
  go_wp2_with fail
  go_ret
  exact ⟨rfl, hb⟩
 | true =>
  rw [Bool.true_and]
  go_enter Tryz.func63, Tryz.ntmps63
  go_wp2_with fail
  refine HV.out.mono ?_
  rintro e w1 ⟨rfl, hb⟩
  have B1 := ι hb
  obtain ⟨K, hK⟩ : ∃ K, K = w1.heap.size := ⟨_, rfl⟩
  have hGK : G ≤ K := by rw [hG, hK]; exact hb.size
  clear hb
  go_wp2_with fail
  rw [← hK]
  generalize hw2 : World.iter w1 s 0 = w2
  have I2 := ι (show w2.heap[K]? = some (.stringIter s 0) by subst hw2; rw [hK]; exact World.iter_heap w1 s 0)
  have B2 := ι (show Below G w w2 by subst hw2; rw [hG]; exact B1.out.trans ((Below.more' _ _).mono B1.out.size))
  clear hw2 hK B1
  go_loopw [] (fun wr => ∃ (pos b : Nat), s.size ≤ pos + b ∧ Hid (wr.heap[K]? = some (.stringIter s pos)) ∧ Hid (Below G w wr) ∧ Hid ((rnsF s b pos).all (fun r => decide (0 ≤ idxV r)) = (rns s).all (fun r => decide (0 ≤ idxV r)))) (fun wr => s.size - wr.iterPos K)
  case atStart => exact ⟨0, s.size, by omega, I2, B2, ι rfl⟩
  case round =>
  obtain ⟨pos, b, hb, I, B, H⟩ := hrel
  have hK2 : K < wr.heap.size := (Array.getElem?_eq_some_iff.1 I.out).1
  by_cases hp : pos < s.size
  ·have hnx : ∀ ty, (Instr.next (.pointer (some ⟨K, 0, none⟩)) true ty).run Tryz.prog wr = _ := fun ty => Lib.run_next_any_at wr K s pos ty I.out hp
   have hwd := Lib.decode_width_pos s pos hp
   obtain ⟨b, rfl⟩ : ∃ c, b = c + 1 := ⟨b - 1, by omega⟩
   have hle := decode_le s pos
   have H2 := ι (show ((decide (0 ≤ idxV (Utf8.decode s pos).1)) && (rnsF s b (pos + (Utf8.decode s pos).2)).all (fun r => decide (0 ≤ idxV r))) = (rns s).all (fun r => decide (0 ≤ idxV r)) by
    rw [← H.out]
    show _ = (if pos < s.size then _ else _ : List Nat).all _
    rw [if_pos hp]
    simp)
   generalize (Utf8.decode s pos).1 = x at *
   generalize (Utf8.decode s pos).2 = d at *
   clear H
   have I3 := ι (Lib.iterAt_heap wr K s pos (pos + d) I.out)
   have B3 := ι (Lib.below_iterAt B.out hGK s (pos + d))
   have hsz := Lib.iterAt_size wr K s (pos + d)
   go_wp2_with fail
   generalize hw3 : World.iterAt wr K s (pos + d) = w3 at *
   refine (index_any x w3 (by omega) (by omega)).mono ?_
   rintro e w4 ⟨rfl, hb4⟩
   have I4 := ι ((hb4.block K (by omega)).trans I3.out)
   have B4 := ι (B3.out.trans (hb4.mono (by omega)))
   have hz4 := hb4.size
   have hpos4 : s.size - (pos + d) < s.size - pos := by omega
   have hit : wr.iterPos K = pos := by unfold World.iterPos; rw [I.out]
   have hit4 : w4.iterPos K = pos + d := by unfold World.iterPos; rw [I4.out]
   have HIT := ι hit
   have HIT4 := ι hit4
   clear hw3 hsz hb4 hnx I3 B3 hit hit4
   obtain ⟨q, hq⟩ : ∃ q, q = idxV x := ⟨_, rfl⟩
   rw [← hq] at H2 ⊢
   have hqr := idxV_range x
   rw [← hq] at hqr
   clear hq
   by_cases h0 : q < 0
   ·have t0 : decide (q < 0) = true := by simpa using h0
    have H3 := ι (show false = (rns s).all (fun r => decide (0 ≤ idxV r)) by rw [← H2.out, show decide (0 ≤ q) = false by simpa using h0]; rfl)
    clear h0 H2
    go_wp2_with fail
    go_ret
    exact ⟨by rw [← H3.out]; rfl, HG.out ▸ B4.out⟩
   have t0 : decide (q < 0) = false := by simpa using h0
   have H3 := ι (show (rnsF s b (pos + d)).all (fun r => decide (0 ≤ idxV r)) = (rns s).all (fun r => decide (0 ≤ idxV r)) by rw [← H2.out, show decide (0 ≤ q) = true by simp; omega]; rfl)
   clear h0 H2
   go_wp2_with fail
   go_roundw
   case rel => exact ⟨pos + d, b, by omega, I4, B4, H3⟩
   case measure => rw [HIT.out, HIT4.out]; exact hpos4
  have hnx : ∀ ty, (Instr.next (.pointer (some ⟨K, 0, none⟩)) true ty).run Tryz.prog wr = _ := fun ty => Lib.run_next_end_at wr K s pos ty I.out hp
  have H3 := ι (show true = (rns s).all (fun r => decide (0 ≤ idxV r)) by rw [← H.out, rnsF_end s b pos hp]; rfl)
  go_wp2_with fail
  go_ret
  exact ⟨by rw [← H3.out]; rfl, HG.out ▸ B.out⟩
theorem len_text (s : ByteArray) (w : World) (hs : s.size ≤ 2000000) (hw : Wt w) :
  Calls Tryz.prog 161 #[.string s] w fun e w' => e = .returned (.int .i64 (lenV s)) ∧ Below w.heap.size w w' := by
 have HV := ι (valid_text s w hs hw)
 unfold lenV
 generalize valV s = v at *
 cases v with
 | false =>
  go_enter Tryz.func161, Tryz.ntmps161
  go_wp2_with fail
  refine HV.out.mono ?_
  rintro e w1 ⟨rfl, hb⟩
  go_wp2_with fail
  go_ret
  exact ⟨rfl, hb⟩
 | true =>
  go_enter Tryz.func161, Tryz.ntmps161
  go_wp2_with fail
  refine HV.out.mono ?_
  rintro e w1 ⟨rfl, hb⟩
  go_wp2_with fail
  refine (Tryz.utf8_RuneCountInString s w1 (by omega)).mono ?_
  rintro e w2 ⟨rfl, pos, rfl⟩
  go_wp2_with fail
  go_ret
  exact ⟨rfl, hb.trans ((Below.more' _ _).mono hb.size)⟩
theorem lenV_range (s : ByteArray) (hs : s.size ≤ 2000000) : -1 ≤ lenV s ∧ lenV s ≤ 2000000 := by
 have := Lib.runeCount_le s
 unfold lenV
 split <;> omega
end Go.Proofs.YtmopjhbfobmklaaGreatDoor
