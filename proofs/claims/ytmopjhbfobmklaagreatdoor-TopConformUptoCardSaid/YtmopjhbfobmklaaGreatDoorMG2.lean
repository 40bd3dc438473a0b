/-
  The contract of Reels of edl, with those of Sort and Compact at strings. Their conditions are their hypotheses.
-/
import Derived.Test.YtmopjhbfobmklaaGreatDoorMG1
import Derived.Test.YtmopjhbfobmklaaGreatDoorShelf
import Derived.Sort.OwnSorted
import Derived.Lib.OwnBridge
namespace Go.Proofs.YtmopjhbfobmklaaGreatDoor
open Go.RowKit Go.Joins Go.Sort
set_option linter.unusedVariables false
set_option linter.unusedSimpArgs false
theorem infoStr : (Tryz.prog.info? 9).map (fun i => (i.zero, i.size, i.bytes)) = some (some (.string ⟨#[]⟩), 1, 16) := by kernel_rfl
abbrev sortL (ss : List (List UInt8)) : List (List UInt8) := ss.mergeSort fun x y => decide (x ≤ y)
theorem sortStr_any (base : Nat) (v : Value) (ss : List (List UInt8)) (w : World) (h : w.ownsRow base 9 1 v ss.length (ss.map encStr)) (hB : base ≤ w.heap.size) (hl : ss.length ≤ 2000000) :
  Calls Tryz.prog 106 #[v] w fun e w' => e = .returned (.tuple #[]) ∧ w'.ownsRow base 9 1 v ss.length ((sortL ss).map encStr) ∧ Below base w w' := by
 rcases h.2 with ⟨e0, e1⟩ | ⟨g, cap, cur, rfl, hb, hg, hn, hm, hs, ht⟩
 ·obtain rfl : ss = [] := by simpa using e1
  subst e0
  have hcon := Tryz.slices_Sort_string_none none 0 w
  refine hcon.mono ?_
  rintro e w' ⟨rfl, rfl⟩
  exact ⟨rfl, by rw [show sortL [] = [] by simp]; exact h, Below.refl _ _⟩
 ·have hlt : g < w.heap.size := (Array.getElem?_eq_some_iff.1 hg).1
  have hcon := Tryz.slices_Sort_string g 0 cap ss w (holds_of_block hg (by simpa using ht)) hlt (by omega)
  refine hcon.mono ?_
  rintro e w' ⟨rfl, n, os, rfl⟩
  refine ⟨rfl, ownsRow_sorted (by simp) hb hg hn hm hs, (Below.refl _ _).grown (grownBy_sorted _) hB (fun k hk => by cases hk; exact hb)⟩
theorem compactStr_any (base : Nat) (v : Value) (ss : List (List UInt8)) (w : World) (h : w.ownsRow base 9 1 v ss.length (ss.map encStr)) (hB : base ≤ w.heap.size) (hl : ss.length ≤ 2000000) :
  Calls Tryz.prog 107 #[v] w fun e w' => (∃ A c, e = .returned (.slice A (Lib.compact ss).length c)) ∧ Below base w w' := by
 rcases h.2 with ⟨e0, e1⟩ | ⟨g, cap, cur, rfl, hb, hg, hn, hm, hs, ht⟩
 ·obtain rfl : ss = [] := by simpa using e1
  subst e0
  have hcon := Tryz.slices_Compact_string_empty none 0 w
  refine hcon.mono ?_
  rintro e w' ⟨rfl, rfl⟩
  exact ⟨⟨_, _, rfl⟩, Below.refl _ _⟩
 ·have hcon := Tryz.slices_Compact_string g 0 cap ss w (holds_of_block hg (by simpa using ht)) (by omega) hn
  refine hcon.mono ?_
  rintro e w' ⟨rfl, q, rfl⟩
  exact ⟨⟨_, _, rfl⟩, Lib.below_putRow (Below.refl _ _) hb⟩
/-- How many reels there are. -/
def relsN (l : List Ct) : Nat := (Lib.compact (sortL (l.map (·.reel)))).length
theorem take_reel {l : List Ct} {k : Nat} {x : Ct} (h : l[k]? = some x) : (l.take (k + 1)).map (·.reel) = (l.take k).map (·.reel) ++ [x.reel] := by
 rw [List.take_add_one, h]
 simp
set_option maxHeartbeats 8000000 in
theorem reels_any (d : Lst) (v : Value) (w : World) (hc : CutsAt w v d.cuts) (hl : d.cuts.length ≤ 2000000) :
  Calls Tryz.prog 68 #[d.v v] w fun e w' => (∃ A c, e = .returned (.slice A (relsN d.cuts) c)) ∧ Below w.heap.size w w' := by
 obtain ⟨i0, hi, hz0, hz1, hz2⟩ := info_parts infoStr
 have HI0 := Lib.hid (And.intro hi (And.intro hz0 (And.intro hz1 hz2)))
 clear hi hz0 hz1 hz2
 obtain ⟨A, cp, rfl⟩ := hc.form
 have HC := Lib.hid hc
 clear hc
 obtain ⟨G, hG⟩ : ∃ G, G = w.heap.size := ⟨_, rfl⟩
 rw [show d.v (.slice A d.cuts.length cp) = .agg #[.string (sB d.title), .int .u8 d.rate, .bool d.drop, .slice A d.cuts.length cp] from rfl]
 go_enter Tryz.func68, Tryz.ntmps68
 go_wp2_with fail
 rw [← hG]
 generalize hw1 : World.alloc _ _ = w1
 have F1 := Lib.hid (show Held w1 G (d.cs (.slice A d.cuts.length cp)) by subst hw1; exact Held.new hG)
 have B1 := Lib.hid (show Below w.heap.size w w1 by subst hw1; exact Below.more' _ _)
 have hN : w.heap.size ≤ w1.heap.size := B1.out.size
 clear hw1 hG
 go_loopw [3, 9] (fun v i wr => ∃ k : Nat, k ≤ d.cuts.length ∧ i = .int .i64 k ∧ Hid (wr.ownsRow w1.heap.size 9 1 v k (((d.cuts.take k).map (·.reel)).map encStr)) ∧ Hid (Below w1.heap.size w1 wr)) (fun _ i _ => d.cuts.length - (intOf i).toNat)
 case atStart => exact ⟨0, Nat.zero_le _, rfl, Lib.hid (World.ownsRow_nil _ _ _ _), Lib.hid (Below.refl _ _)⟩
 case round =>
  obtain ⟨k, hk, rfl, HO, BR⟩ := hrel
  have BW := Lib.hid (B1.out.trans (BR.out.mono hN))
  by_cases hlt : k < d.cuts.length
  ·have hlt2 : (k : Int) < (d.cuts.length : Int) := by omega
   obtain ⟨x, hx⟩ : ∃ x, d.cuts[k]? = some x := ⟨_, List.getElem?_eq_getElem hlt⟩
   have HD := Lib.hid (take_reel hx)
   obtain ⟨b, o, rfl, q0, q1, q2, q3, q4, q5, q6⟩ := CutsAt.get (HC.out.ext (Flat.stays _) BW.out) hx
   have hbr : b < wr.heap.size := World.block_lt_of_cell? wr _ q0
   have hs3 : w1.heap.size ≤ wr.heap.size := BR.out.size
   clear hx
   go_wp2_with (at_builtin; go_loud (refine wpList_append_own _ rfl _ _ 144 rfl w1.heap.size 9 i0 (.string ⟨#[]⟩) 1 16 Tryz.underlying144 HI0.out.1 HI0.out.2.1 HI0.out.2.2.1 HI0.out.2.2.2 rfl (by decide) _ k _ rfl (own_ext (own_ext HO.out (Below.more' _ _)) (Below.more' _ _)) ⟨wr.heap.size + 1, 0, none⟩ 1 1 [.string (sB x.reel)] rfl rfl (CellsAt.all (by simp [CellsAt, go_sem])) (by simp [Value.oneCell']) (by simp only [maxLen]; omega) (by omega) (by simp; omega) ?_))
   intro v4 w4 ho4 hgr4 _
   have HO4 := Lib.hid (show w4.ownsRow w1.heap.size 9 1 v4 (k + 1) (((d.cuts.take (k + 1)).map (·.reel)).map encStr) by
    have e : ((d.cuts.take (k + 1)).map (·.reel)).map encStr = List.take k (List.map (encStr ∘ fun x => x.reel) d.cuts) ++ [Value.string (sB x.reel)] := by rw [HD.out, List.map_append]; simp; rfl
    rw [e]
    exact ho4)
   have BR4 := Lib.hid (show Below w1.heap.size w1 w4 from ((BR.out.alloc BR.out.size _).alloc (by have := BR.out.size; simp; omega) _).grown hgr4 (by have := BR.out.size; simp; omega) (own_base HO.out))
   clear ho4 hgr4 HO BR
   go_wp2_with fail
   go_roundw
   case rel => exact ⟨k + 1, by omega, by go_num, HO4, BR4⟩
   case measure => simp [intOf]; omega
  ·obtain rfl : k = d.cuts.length := by omega
   rw [List.take_length] at HO
   clear hlt
   go_wp2_with fail
   refine (sortStr_any w1.heap.size _ (d.cuts.map (·.reel)) wr (by simpa using HO.out) BR.out.size (by simpa using hl)).mono ?_
   rintro e w2 ⟨rfl, ho, hb⟩
   have HO2 := Lib.hid (show w2.ownsRow w1.heap.size 9 1 _ (sortL (d.cuts.map (·.reel))).length ((sortL (d.cuts.map (·.reel))).map encStr) by simpa using ho)
   have B2 := Lib.hid (BR.out.trans hb)
   clear ho hb HO BR BW
   go_wp2_with fail
   refine (compactStr_any w1.heap.size _ (sortL (d.cuts.map (·.reel))) w2 HO2.out B2.out.size (by simpa using hl)).mono ?_
   rintro e w3 ⟨⟨A', c', rfl⟩, hb⟩
   have B3 := Lib.hid (show Below w.heap.size w w3 from B1.out.trans ((B2.out.trans hb).mono hN))
   clear hb HO2 B2
   go_wp2_with fail
   go_ret
   exact ⟨⟨A', c', rfl⟩, B3.out⟩
end Go.Proofs.YtmopjhbfobmklaaGreatDoor
