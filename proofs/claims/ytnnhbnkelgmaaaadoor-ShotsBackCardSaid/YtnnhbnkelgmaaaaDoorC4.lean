/-
  The contracts of same, few, Text and awake. Their conditions are their hypotheses.
-/
import Derived.Test.YtnnhbnkelgmaaaaDoorC3
import Derived.Test.YtnnhbnkelgmaaaaDoorShelf
import Derived.Lib.ItoaLen
import Derived.Lib.AppendIntMem
namespace Go.Proofs.YtnnhbnkelgmaaaaDoor
open Go.RowKit
set_option linter.unusedVariables false
set_option linter.unusedSimpArgs false
theorem i9 : (Tryd.prog.info? 9).map (fun i => (i.zero, i.size, i.bytes)) = some (some (.string ⟨#[]⟩), 1, 16) := by kernel_rfl
theorem few_any (A : Option Addr) (c : Nat) (n : Nat) (w : World) (h : n ≤ c) (hc : c ≤ maxLen) :
    Calls Tryd.prog 11 #[.slice A n c] w fun e w' => e = .returned (.slice A (min n 420) c) ∧ w = w' := by
  have hm : c ≤ 9223372036854775807 := by simpa [maxLen] using hc
  clear hc
  have e : (min (n : Int) 420).toNat = min n 420 := by omega
  go_enter Tryd.func11, Tryd.ntmps11
  go_wp2
  go_ret
  exact ⟨rfl, rfl⟩
def txt (xs : List Int) : ByteArray := if chkS xs = 0 then (if xs.length = 0 then ⟨#[45]⟩ else ⟨(Lib.join (xs.map Lib.itoa) [32]).toArray⟩) else ⟨#[]⟩
def itoaB (n : Int) : ByteArray := ⟨(Lib.itoa n).toArray⟩
theorem lens_le {xs : List (List UInt8)} {m : Nat} (h : ∀ x ∈ xs, x.length ≤ m) : Lib.lens xs ≤ m * xs.length := by
  induction xs with
  | nil => simp [Lib.lens]
  | cons x xs ih =>
    have h1 := h x List.mem_cons_self
    have h2 := ih fun y hy => h y (List.mem_cons_of_mem _ hy)
    simp [Lib.lens, Nat.mul_add] at h2 ⊢
    omega
theorem join_bd {xs : List Int} (hx : ∀ j, j < xs.length → 1 ≤ xs.getD j 0 ∧ xs.getD j 0 ≤ 5184000) : (Lib.join (xs.map Lib.itoa) [32]).length ≤ 22 * xs.length := by
  cases xs with
  | nil => simp [Lib.join]
  | cons x xs =>
    have h : ∀ y ∈ (x :: xs).map Lib.itoa, y.length ≤ 21 := by
      intro y hy
      obtain ⟨z, hz, rfl⟩ := List.mem_map.1 hy
      obtain ⟨j, hj, rfl⟩ := List.getElem_of_mem hz
      have := hx j hj
      rw [show (x :: xs).getD j 0 = (x :: xs)[j] by rw [List.getD_eq_getElem?_getD, List.getElem?_eq_getElem hj]; rfl] at this
      exact Lib.itoa_length_le _ (by omega) (by omega)
    have h2 := lens_le h
    rw [List.map_cons, Lib.join_length]
    rw [List.map_cons] at h2
    simp at h2 ⊢
    omega
theorem txt_bad {xs : List Int} (h : chkS xs ≠ 0) : txt xs = ⟨#[]⟩ := by simp [txt, h]
theorem txt_none {xs : List Int} (h : chkS xs = 0) (h1 : xs.length = 0) : txt xs = ⟨#[45]⟩ := by simp [txt, h, h1]
theorem txt_some {xs : List Int} (h : chkS xs = 0) (h1 : 0 < xs.length) : txt xs = ⟨(Lib.join (xs.map Lib.itoa) [32]).toArray⟩ := by
  rw [txt, if_pos h, if_neg (by omega)]
theorem take_map_succ {α β : Type} (f : α → β) {xs : List α} {k : Nat} (hk : k < xs.length) : (xs.take (k + 1)).map f = (xs.take k).map f ++ [f xs[k]] := by
  rw [List.take_succ_eq_append_getElem hk, List.map_append]; rfl
theorem text_bad (A : Option Addr) (c : Nat) (xs : List Int) (w : World) (h : IntsAt w A xs) (hl : xs.length ≤ 9223372036854775807) (h0 : (chkS xs == 0) = false) :
    Calls Tryd.prog 25 #[.slice A xs.length c] w fun e w' => e = .returned (.tuple #[.string (txt xs), .int .i64 (chkS xs)]) ∧ w = w' := by
  have H := Lib.hid h
  have h0' : (chkS xs != 0) = true := by simpa using h0
  rw [txt_bad (by simpa using h0)]
  clear h
  go_enter Tryd.func25, Tryd.ntmps25
  go_wp2_with fail
  refine (check_any A c xs _ H.out hl).mono ?_
  rintro e w' ⟨rfl, rfl⟩
  go_wp2_with fail
  go_ret2
  exact ⟨rfl, rfl⟩
theorem text_none (A : Option Addr) (c : Nat) (xs : List Int) (w : World) (h : IntsAt w A xs) (hl : xs.length ≤ 9223372036854775807) (h0 : chkS xs = 0) (he : xs.length = 0) :
    Calls Tryd.prog 25 #[.slice A xs.length c] w fun e w' => e = .returned (.tuple #[.string (txt xs), .int .i64 0]) ∧ w = w' := by
  have H := Lib.hid h
  have H0 := Lib.hid h0
  have heb := len_beq_true he
  rw [txt_none h0 he]
  clear h h0 he
  go_enter Tryd.func25, Tryd.ntmps25
  go_wp2_with fail
  refine (check_any A c xs _ H.out hl).mono ?_
  rintro e w' ⟨rfl, rfl⟩
  rw [H0.out]
  go_wp2_with fail
  go_ret2
  exact ⟨rfl, rfl⟩
theorem text_some (A : Option Addr) (c : Nat) (xs : List Int) (w : World) (h : IntsAt w A xs) (hl : xs.length ≤ 9223372036854775807) (h0 : chkS xs = 0) (he : 0 < xs.length) (ht : Lib.TabIs Tryd.prog w "internal/strconv.uint64pow10" .u64 Lib.pow10Tab) :
    Calls Tryd.prog 25 #[.slice A xs.length c] w fun e w' => e = .returned (.tuple #[.string (txt xs), .int .i64 0]) ∧ Below w.heap.size w w' := by
  have H := Lib.hid h
  have H0 := Lib.hid h0
  have heb := len_beq_false he
  have hlen := (chkS_zero h0).1
  have HBD := Lib.hid (chkS_bd h0)
  have HT := Lib.hid (Lib.tabBelow_of_tabIs ht)
  obtain ⟨T, hT⟩ : ∃ T, T = txt xs := ⟨_, rfl⟩
  rw [← hT]
  have HTX := Lib.hid (hT.trans (txt_some h0 he))
  obtain ⟨i0, hi, hz0, hz1, hz2⟩ := info_parts i9
  have HI0 := Lib.hid (And.intro hi (And.intro hz0 (And.intro hz1 hz2)))
  obtain ⟨B, hB⟩ : ∃ B, B = w.heap.size := ⟨_, rfl⟩
  have HB := Lib.hid hB
  clear h h0 ht hT hi hz0 hz1 hz2
  rw [← hB]
  clear hB
  go_enter Tryd.func25, Tryd.ntmps25
  go_wp2_with fail
  refine (check_any A c xs _ H.out hl).mono ?_
  rintro e w' ⟨rfl, rfl⟩
  rw [H0.out]
  go_wp2_with fail
  go_loopw [18, 5] (fun i v wr => ∃ k : Nat, k ≤ xs.length ∧ i = .int .i64 k ∧ Hid (wr.ownsRow B 9 1 v k (((xs.take k).map itoaB).map Value.string)) ∧ Hid (Below B w wr) ∧ B ≤ wr.heap.size) (fun i _ _ => xs.length - (intOf i).toNat)
  case atStart => exact ⟨0, by omega, rfl, Lib.hid (World.ownsRow_nil _ _ _ _), Lib.hid (Below.refl _ _), by rw [HB.out]; exact Nat.le_refl _⟩
  case round =>
    obtain ⟨k, hk, rfl, hown, hbel, hsz⟩ := hrel
    by_cases hlt : k < xs.length
    · obtain ⟨b2, off, rfl, hc⟩ := (H.out.below hbel.out (by rw [HB.out]; exact Nat.le_refl _)).get hlt
      have hbk := HBD.out k hlt
      have HX := Lib.hid (show xs.getD k 0 = xs[k] by simp [hlt])
      have HM := Lib.hid (take_map_succ (Value.string ∘ itoaB) hlt)
      generalize xs.getD k 0 = x at *
      have HTR := Lib.hid ((HT.out.on (by rw [← HB.out]; exact hbel.out)).here)
      go_wp2_with fail
      refine (Tryd.strconv_FormatInt_10 x (by omega) (by omega) _ HTR.out).mono ?_
      rintro e w' ⟨rfl, kk, os, hw'⟩
      have hbe : Below B wr w' := by rw [hw']; exact Lib.below_grow B wr hsz kk os
      have hszw : B ≤ w'.heap.size := by have := hbe.size; omega
      have hown1 := Lib.hid (ownsRow_below (B := wr.heap.size) hown.out (show Below wr.heap.size wr w' by rw [hw']; exact Lib.below_grow _ wr (Nat.le_refl _) kk os) (Nat.le_refl _))
      have hbel1 := Lib.hid (hbel.out.trans hbe)
      clear hw' hbe hc hown hbel
      go_wp2_with (at_builtin; refine wpList_append_own _ rfl _ _ 50 rfl B 9 i0 (.string ⟨#[]⟩) 1 16 Tryd.underlying50 HI0.out.1 HI0.out.2.1 HI0.out.2.2.1 HI0.out.2.2.2 rfl (by decide) _ k (((xs.take k).map itoaB).map Value.string) rfl (hown1.out.alloc _) ⟨_, 0, none⟩ 1 1 [.string (itoaB x)] rfl rfl ?c1 ?c2 ?c3 ?c4 ?c5 ?_)
      case c1 => exact CellsAt.all (by simp [CellsAt, go_sem, itoaB])
      case c2 => simp [Value.oneCell']
      case c3 => simp only [maxLen]; omega
      case c4 => omega
      case c5 => simp; omega
      intro v2 w2 hown2 hgr _
      have hsz2 : B ≤ w2.heap.size := by have := hgr.size; simp at this; omega
      have hown3 := Lib.hid hown2
      have hbel2 := Lib.hid (((hbel1.out).alloc hszw _).grown hgr (by simp; omega) (fun q hq => (hown1.out.lt q hq).1))
      clear hown2 hgr
      go_wp2_with fail
      go_roundw
      case rel => exact ⟨k + 1, by omega, by go_num, Lib.hid (by have := hown3.out; rw [HX.out, ← List.map_take] at this; rw [List.map_map, HM.out]; exact this), Lib.hid hbel2.out, hsz2⟩
      case measure => simp [intOf]; omega
    · have hkn : k = xs.length := by omega
      subst hkn
      rw [List.take_length] at hown
      obtain ⟨g, cap, hv, hgB, hgl⟩ := hown.out.form he
      obtain ⟨A2, c2, hv2, hr2, hc2, hc3, _⟩ := row_of_own hown.out
      subst hv
      cases hv2
      have hcells : ∀ (j : Nat) x, (xs.map itoaB)[j]? = some x → wr.cell? ⟨g, 0 + j, none⟩ = some (.string x) := by
        intro j x hj
        obtain ⟨b, o, hA, hc⟩ := hr2 j (.string x) (by rw [List.getElem?_map, hj]; rfl)
        cases hA
        exact hc
      have HC := Lib.hid hcells
      have HJ := Lib.hid (join_bd HBD.out)
      clear hcells hr2 hown
      go_wp2_with fail
      have hmap : (xs.map itoaB).map (·.data.toList) = xs.map Lib.itoa := by simp [itoaB, Function.comp_def]
      have hsj := Tryd.strings_Join g 0 cap (xs.map itoaB) ⟨#[32]⟩ wr HC.out hgl (by simp; omega) (by simpa using hc2) (by rw [hmap]; have := HJ.out; show (Lib.join (xs.map Lib.itoa) [32]).length ≤ _; omega)
      rw [hmap, List.length_map] at hsj
      refine hsj.mono ?_
      rintro e w' ⟨rfl, hb'⟩
      have hbf := Lib.hid (hbel.out.trans (hb'.mono hsz))
      clear hb' hmap hsj
      go_wp2_with fail
      go_ret2
      exact ⟨by rw [HTX.out]; rfl, hbf.out⟩
end Go.Proofs.YtnnhbnkelgmaaaaDoor
