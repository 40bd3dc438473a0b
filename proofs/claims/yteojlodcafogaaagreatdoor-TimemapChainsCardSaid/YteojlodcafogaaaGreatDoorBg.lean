/-
  Texts and words of spans, and their equality. The conditions of the contracts are their hypotheses.
-/
import Derived.Test.YteojlodcafogaaaGreatDoorBf
import Derived.Test.YteojlodcafogaaaGreatDoorShelf
import Derived.Lib.ItoaLen
import Derived.Lib.AppendIntMem
import Derived.Deep.RegionLaw
import Derived.BigRegion
import Derived.Test.YteojlodcafogaaaGreatDoorBa
import Derived.Lib.ParseIntB
import Derived.Lib.SplitLaws
namespace Go.Proofs.YteojlodcafogaaaGreatDoor
open Go.RowKit Go.Joins
set_option linter.unusedVariables false
set_option linter.unusedSimpArgs false
theorem i9 : (Tryz.prog.info? 9).map (fun i => (i.zero, i.size, i.bytes)) = some (some (.string ⟨#[]⟩), 1, 16) := by kernel_rfl
abbrev Tab (w : World) : Prop := Lib.TabIs Tryz.prog w "internal/strconv.uint64pow10" .u64 Lib.pow10Tab
theorem Tab.on {w w' : World} (h : Tab w) (hb : Below w.heap.size w w') : Tab w' := ((Lib.tabBelow_of_tabIs h).on hb).here
def wdS (x : Spn) : List UInt8 := Lib.itoa x.i ++ [45] ++ Lib.itoa x.o
def txtS (L : List Spn) : List UInt8 × Int := if chkS L = 0 then ((if L.length = 0 then [45] else Lib.join (L.map wdS) [44]), 0) else ([], chkS L)
theorem fmt_any (n : Int) (w : World) (h0 : 0 ≤ n) (h1 : n ≤ 10378368000) (ht : Tab w) :
    Calls Tryz.prog 37 #[.int .i64 n, .int .i64 10] w fun e w' => e = .returned (.string (sB (Lib.itoa n))) ∧ Below w.heap.size w w' :=
  (Tryz.strconv_FormatInt_10 n (by omega) (by omega) w ht).mono fun e w' ⟨he, kk, os, hw'⟩ => ⟨he, by rw [hw']; exact Lib.below_grow _ w (Nat.le_refl _) kk os⟩
theorem itoa_le {n : Int} (h0 : 0 ≤ n) (h1 : n ≤ 10378368000) : (Lib.itoa n).length ≤ 21 := Lib.itoa_length_le _ (by omega) (by omega)
theorem wdS_le {x : Spn} (h0 : 0 ≤ x.i) (h1 : x.i ≤ 10378368000) (h2 : 0 ≤ x.o) (h3 : x.o ≤ 10378368000) : (wdS x).length ≤ 43 := by
  have := itoa_le h0 h1
  have := itoa_le h2 h3
  unfold wdS
  simp
  omega
theorem lens_le {xs : List (List UInt8)} {m : Nat} (h : ∀ x ∈ xs, x.length ≤ m) : Lib.lens xs ≤ m * xs.length := by
  induction xs with
  | nil => simp [Lib.lens]
  | cons x xs ih =>
    have h1 := h x List.mem_cons_self
    have h2 := ih fun y hy => h y (List.mem_cons_of_mem _ hy)
    simp [Lib.lens, Nat.mul_add] at h2 ⊢
    omega
theorem chk_bd {L : List Spn} (h : chkS L = 0) : ∀ x ∈ L, 0 ≤ x.i ∧ x.i ≤ 10378368000 ∧ 0 ≤ x.o ∧ x.o ≤ 10378368000 := by
  obtain ⟨_, hc, hb⟩ := chkS_ok.1 h
  intro x hx
  have h1 := can_pos hc x hx
  have h2 := hb x hx
  have : x.o ≤ 10378368000 := h2.2
  omega
theorem join_bd {L : List Spn} (h : chkS L = 0) : (Lib.join (L.map wdS) [44]).length ≤ 44 * L.length := by
  have hb := chk_bd h
  clear h
  cases L with
  | nil => simp [Lib.join]
  | cons x xs =>
    have h : ∀ y ∈ (x :: xs).map wdS, y.length ≤ 43 := by
      intro y hy
      obtain ⟨z, hz, rfl⟩ := List.mem_map.1 hy
      obtain ⟨b1, b2, b3, b4⟩ := hb z hz
      exact wdS_le b1 b2 b3 b4
    have h2 := lens_le h
    rw [List.map_cons, Lib.join_length]
    rw [List.map_cons] at h2
    simp at h2 ⊢
    omega
def TextP (r : List UInt8 × Int) (W : World) (e : Ending) (w' : World) : Prop := e = .returned (.tuple #[.string (sB r.1), .int .i64 r.2]) ∧ Below W.heap.size W w'
theorem wd_step {L : List Spn} {k : Nat} {x : Spn} (hk : L[k]? = some x) : ((L.take (k + 1)).map (fun s => Value.string (sB (wdS s)))) = (L.take k).map (fun s => Value.string (sB (wdS s))) ++ [.string (sB (wdS x))] := by
  rw [List.take_add_one, hk, List.map_append]
  rfl
end Go.Proofs.YteojlodcafogaaaGreatDoor
namespace Go.Proofs.YteojlodcafogaaaGreatDoor
open Go.RowKit Go.Joins
set_option linter.unusedVariables false
set_option linter.unusedSimpArgs false
theorem lenS_step {L : List Spn} {k : Nat} {x : Spn} (hk : L[k]? = some x) : lenS (L.take (k + 1)) = lenS (L.take k) + (x.o - x.i) := by
  unfold lenS
  rw [List.take_add_one, hk, List.map_append, List.sum_append]
  simp
theorem lenS_take {L : List Spn} (h : chkS L = 0) (k : Nat) (x : Spn) (hk : L[k]? = some x) : (0 ≤ x.i ∧ x.i ≤ 10378368000 ∧ 0 ≤ x.o ∧ x.o ≤ 10378368000) ∧ 0 ≤ lenS (L.take k) ∧ lenS (L.take k) ≤ 4151347200000 := by
  obtain ⟨h1, hc, hb⟩ := chkS_ok.1 h
  refine ⟨chk_bd h x (List.mem_of_getElem? hk), ?_⟩
  obtain ⟨h2, h3⟩ := lenS_bd (L := L.take k) (fun s hs => by
    have hs' := List.mem_of_mem_take hs
    have := hb s hs'
    exact ⟨this.1, can_pos hc s hs', this.2⟩)
  refine ⟨h2, Int.le_trans h3 ?_⟩
  have : (L.take k).length ≤ 400 := Nat.le_trans (List.length_take_le k L |> fun _ => by simp; omega) h1
  have h4 : ((L.take k).length : Int) * 10378368000 ≤ 400 * 10378368000 := Int.mul_le_mul_of_nonneg_right (by omega) (by decide)
  exact Int.le_trans h4 (by decide)
theorem same_any (A : Option Addr) (c : Nat) (A2 : Option Addr) (c2 : Nat) (L : List Spn) (w : World) (h : SpAt w A L) (h2 : SpAt w A2 L) (hl : L.length ≤ 1000000000) :
    Calls Tryz.prog 23 #[.slice A L.length c, .slice A2 L.length c2] w fun e w' => e = .returned (.bool true) ∧ Below w.heap.size w w' := by
  have H := Lib.hid h
  have H2 := Lib.hid h2
  clear h h2
  go_enter Tryz.func23, Tryz.ntmps23
  go_wp2_with fail
  go_loopw [13] (fun i wr => ∃ k : Nat, k ≤ L.length ∧ i = .int .i64 k ∧ Hid (Below w.heap.size w wr)) (fun i _ => L.length - (intOf i).toNat)
  case atStart => exact ⟨0, by omega, rfl, Lib.hid (Below.refl _ _)⟩
  case round =>
    obtain ⟨k, hk, rfl, G⟩ := hrel
    by_cases hlt : k < L.length
    · have hlt2 : (k : Int) < (L.length : Int) := by omega
      obtain ⟨x, hx⟩ : ∃ x, L[k]? = some x := ⟨_, List.getElem?_eq_getElem hlt⟩
      have HR1 := H.out.ext G.out
      have HR2 := H2.out.ext G.out
      obtain ⟨g, o, rfl⟩ := SpAt.some HR1 hx
      obtain ⟨g2, o2, rfl⟩ := SpAt.some HR2 hx
      obtain ⟨q0, q1⟩ := SpAt.get HR1 hx
      obtain ⟨r0, r1⟩ := SpAt.get HR2 hx
      clear HR1 HR2 hx
      go_wp2_with fail
      go_quiet (fail)
      go_wp2_with fail
      go_roundw
      case rel => exact ⟨k + 1, by omega, by go_num, Lib.hid (below_drewN G.out _)⟩
      case measure => simp [intOf]; omega
    · obtain rfl : k = L.length := by omega
      clear hlt
      go_wp2_with fail
      go_ret
      exact ⟨rfl, G.out⟩
def awL : List Spn := [⟨5, 9⟩, ⟨2, 5⟩, ⟨7, 7⟩, ⟨20, 21⟩]
def awM : List Spn := [⟨2, 9⟩, ⟨20, 21⟩]
theorem aw1 : norS awL = (awM, 0) := by kernel_rfl
theorem aw2 : txtS awM = ([50, 45, 57, 44, 50, 48, 45, 50, 49], 0) := by kernel_rfl
theorem aw3 : lnS awM = (8, 0) := by kernel_rfl
theorem aw4 : chkS awM = 0 := by kernel_rfl
end Go.Proofs.YteojlodcafogaaaGreatDoor
namespace Go.Proofs.YteojlodcafogaaaGreatDoor
open Go.RowKit Go.Joins
set_option linter.unusedVariables false
set_option linter.unusedSimpArgs false
def hasB (n : Int) (s : Spn) : Bool := decide (s.i ≤ n) && decide (n < s.o)
def memB (n : Int) (L : List Spn) : Bool := L.any (hasB n)
theorem hasB_iff {n : Int} {s : Spn} : hasB n s = true ↔ s.has n := by unfold hasB Spn.has; simp
theorem memB_iff {n : Int} {L : List Spn} : memB n L = true ↔ MemS n L := by
  unfold memB MemS
  rw [List.any_eq_true]
  constructor
  · rintro ⟨s, h1, h2⟩; exact ⟨s, h1, hasB_iff.1 h2⟩
  · rintro ⟨s, h1, h2⟩; exact ⟨s, h1, hasB_iff.2 h2⟩
end Go.Proofs.YteojlodcafogaaaGreatDoor
namespace Go.Proofs.YteojlodcafogaaaGreatDoor
set_option linter.unusedVariables false
set_option linter.unusedSimpArgs false
def okI : Lib.NumEnd Int → Option Int := fun r => match r with | .ok v => some v | _ => none
def wdV (w : List UInt8) : Option Spn := match okI (Lib.parseIntB 64 (cutC 45 w).1), okI (Lib.parseIntB 64 (cutC 45 w).2) with | some a, some b => some ⟨a, b⟩ | _, _ => none
def wdsA : List Spn → List (List UInt8) → Option (List Spn)
  | C, [] => some C
  | C, w :: r => match wdV w with | some x => wdsA (C ++ [x]) r | none => none
def prsV (s : List UInt8) : List Spn × Int := if s = [45] then ([], 0) else match wdsA [] (wordsC 44 s) with | some L => if (txtS L).2 = 0 ∧ (txtS L).1 = s then (L, 0) else ([], 4) | none => ([], 4)
theorem wdV_wdS {x : Spn} (h0 : 0 ≤ x.i) (h1 : x.i ≤ 10378368000) (h2 : 0 ≤ x.o) (h3 : x.o ≤ 10378368000) : wdV (wdS x) = some x := by
  have hn : (45 : UInt8) ∉ Lib.itoa x.i := by rw [itoa_dec h0]; exact dec_no (by decide)
  have hc : cutC 45 (wdS x) = (Lib.itoa x.i, Lib.itoa x.o) := by
    unfold wdS
    rw [List.append_assoc]
    exact cutC_cut hn
  unfold wdV
  rw [hc, parseInt_itoa (by omega) (by omega), parseInt_itoa (by omega) (by omega)]
  rfl
theorem wdsA_text : ∀ (L C : List Spn), (∀ x ∈ L, 0 ≤ x.i ∧ x.i ≤ 10378368000 ∧ 0 ≤ x.o ∧ x.o ≤ 10378368000) → wdsA C (L.map wdS) = some (C ++ L)
  | [], C, _ => by simp [wdsA]
  | x :: L, C, h => by
    obtain ⟨h0, h1, h2, h3⟩ := h x (List.mem_cons_self ..)
    have ih := wdsA_text L (C ++ [x]) (fun y hy => h y (List.mem_cons_of_mem _ hy))
    show (match wdV (wdS x) with | some y => wdsA (C ++ [y]) (L.map wdS) | none => none) = _
    rw [wdV_wdS h0 h1 h2 h3]
    show wdsA (C ++ [x]) (L.map wdS) = _
    rw [ih]
    simp
theorem comma_no {x : Spn} (h0 : 0 ≤ x.i) (h2 : 0 ≤ x.o) : (44 : UInt8) ∉ wdS x := by
  unfold wdS
  rw [itoa_dec h0, itoa_dec h2]
  intro h
  rcases List.mem_append.1 h with h | h
  · rcases List.mem_append.1 h with h | h
    · exact dec_no (by decide) h
    · simp at h
  · exact dec_no (by decide) h
theorem join_two (a b : List UInt8) (r : List (List UInt8)) (sep : List UInt8) : Lib.join (a :: b :: r) sep = a ++ sep ++ Lib.join (b :: r) sep := by
  rw [Lib.join_cons, Lib.join_cons]
  simp [Lib.joinTail]
theorem words_join : ∀ (ws : List (List UInt8)), ws ≠ [] → (∀ w ∈ ws, (44 : UInt8) ∉ w) → wordsC 44 (Lib.join ws [44]) = ws
  | [], h, _ => absurd rfl h
  | [a], _, h => by
    rw [Lib.join_one]
    exact wordsC_no (h a (List.mem_cons_self ..))
  | a :: b :: r, _, h => by
    have ih := words_join (b :: r) (by simp) (fun w hw => h w (List.mem_cons_of_mem _ hw))
    rw [join_two, List.append_assoc, List.singleton_append, wordsC_cut (h a (List.mem_cons_self ..)), ih]
theorem prs_text {L : List Spn} (h : (txtS L).2 = 0) : prsV (txtS L).1 = (L, 0) := by
  by_cases h0 : chkS L = 0
  · by_cases he : L.length = 0
    · have e : txtS L = ([45], 0) := by unfold txtS; rw [if_pos h0, if_pos he]
      rw [e]
      have : L = [] := List.eq_nil_of_length_eq_zero he
      rw [this]
      rfl
    · have e : txtS L = (Lib.join (L.map wdS) [44], 0) := by unfold txtS; rw [if_pos h0, if_neg he]
      have hb := chk_bd h0
      have hw : wordsC 44 (Lib.join (L.map wdS) [44]) = L.map wdS := words_join _ (by intro e; simp at e; rw [e] at he; exact he rfl) (fun w hw => by
        obtain ⟨x, hx, rfl⟩ := List.mem_map.1 hw
        exact comma_no (hb x hx).1 (hb x hx).2.2.1)
      have hne : Lib.join (L.map wdS) [44] ≠ [45] := by
        intro e2
        rw [e2] at hw
        have e3 : wordsC 44 [45] = [[45]] := by decide
        rw [e3] at hw
        cases L with
        | nil => exact he rfl
        | cons x r =>
          simp at hw
          have h1 := congrArg List.length hw.1
          have h2 := itoa_ne x.i
          unfold wdS at h1
          cases hi : Lib.itoa x.i with
          | nil => exact h2 hi
          | cons a b => rw [hi] at h1; simp at h1
      unfold prsV
      rw [e]
      dsimp only
      rw [if_neg hne, hw, wdsA_text L [] hb]
      simp only [List.nil_append]
      rw [if_pos ⟨by rw [e], by rw [e]⟩]
  · have e : txtS L = ([], chkS L) := by unfold txtS; rw [if_neg h0]
    rw [e] at h
    exact absurd h h0
theorem prs_empty : prsV [] = ([], 4) := by kernel_rfl
theorem prs_len {s : List UInt8} : (prsV s).1.length ≤ 400 := by
  unfold prsV
  split
  · simp
  · split
    · rename_i L hL
      split
      · rename_i h
        by_cases h0 : chkS L = 0
        · exact (chkS_ok.1 h0).1
        · have e : txtS L = ([], chkS L) := by unfold txtS; rw [if_neg h0]
          rw [e] at h
          exact absurd h.1 h0
      · simp
    · simp
end Go.Proofs.YteojlodcafogaaaGreatDoor
namespace Go.Proofs.YteojlodcafogaaaGreatDoor
open Go.RowKit Go.Joins
set_option linter.unusedVariables false
set_option linter.unusedSimpArgs false
abbrev Ev (g : Nat) (w : World) : Prop := ∃ ev, w.cell? ⟨g, 0, none⟩ = some ev ∧ (ev = .nilIface ∨ ∃ te pe, ev = .iface te pe)
structure Wd (w : World) : Prop where
  tab : Tab w
  mx : ∃ m, w.cell? ⟨1, 0, none⟩ = some (.int .i64 m)
  es : Ev 2 w
  er : Ev 3 w
theorem Wd.on {w w' : World} (h : Wd w) (hb : Below w.heap.size w w') : Wd w' := by
  obtain ⟨h1, ⟨m, h2⟩, ⟨e1, h3, h3'⟩, ⟨e2, h4, h4'⟩⟩ := h
  exact ⟨h1.on hb, ⟨m, (hb.cell (World.block_lt_of_cell? w _ h2)).trans h2⟩, ⟨e1, (hb.cell (World.block_lt_of_cell? w _ h3)).trans h3, h3'⟩, ⟨e2, (hb.cell (World.block_lt_of_cell? w _ h4)).trans h4, h4'⟩⟩
/-- What ParseInt finds. -/
def PintP (l : List UInt8) (B : Nat) (W : World) (e : Ending) (w' : World) : Prop := (∃ v ev, e = .returned (.tuple #[.int .i64 v, ev]) ∧ ((okI (Lib.parseIntB 64 l) = some v ∧ ev = .nilIface) ∨ (okI (Lib.parseIntB 64 l) = none ∧ ∃ tp p, ev = .iface tp p))) ∧ Below B W w'
theorem pint_any (s : List UInt8) (w : World) (hs : s.length ≤ 100000) (hw : Wd w) :
    Calls Tryz.prog 73 #[.string (sB s), .int .i64 10, .int .i64 64] w (PintP s w.heap.size w) := by
  have hsz : (sB s).size ≤ 100000 := by rw [sB_size]; exact hs
  rcases hp : Lib.parseIntB 64 (sB s).data.toList with v | _ | _
  · refine (Tryz.strconv_ParseInt_10_at64_ok (sB s) (by omega) v hp w).mono ?_
    rintro e w' ⟨rfl, hw'⟩
    refine ⟨⟨v, .nilIface, rfl, .inl ⟨?_, rfl⟩⟩, ?_⟩
    · rw [sB_list] at hp
      rw [hp]
      rfl
    · rcases hw' with rfl | ⟨t, rfl⟩
      · exact Below.refl _ _
      · exact Go.Joins.below_bytesWorld _ w _ t (Nat.le_refl _)
  · obtain ⟨ev, h1, h2⟩ := hw.es
    refine (Tryz.strconv_ParseInt_10_at64_syntax (sB s) (by omega) hp ev w h1 h2).mono ?_
    rintro e w' ⟨N, rfl, _, _, hb⟩
    refine ⟨⟨0, _, rfl, .inr ⟨?_, _, _, rfl⟩⟩, hb⟩
    rw [sB_list] at hp
    rw [hp]
    rfl
  · obtain ⟨ev, h1, h2⟩ := hw.er
    refine (Tryz.strconv_ParseInt_10_at64_range (sB s) (by omega) hp ev w h1 h2).mono ?_
    rintro e w' ⟨N, rfl, _, _, hb⟩
    refine ⟨⟨_, _, rfl, .inr ⟨?_, _, _, rfl⟩⟩, hb⟩
    rw [sB_list] at hp
    rw [hp]
    rfl
theorem cut_any (s : List UInt8) (w : World) (hs : s.length ≤ 100000) (hw : Wd w) :
    Calls Tryz.prog 72 #[.string (sB s), .string ⟨#[45]⟩] w fun e w' => e = .returned (.tuple #[.string (sB (cutC 45 s).1), .string (sB (cutC 45 s).2), .bool (decide (45 ∈ s))]) ∧ Below w.heap.size w w' := by
  obtain ⟨m, hm⟩ := hw.mx
  have := Tryz.strings_Cut (sB s) ⟨#[45]⟩ m w (by rw [sB_size]; omega) hm
  rw [show (⟨#[45]⟩ : ByteArray).data.toList = [45] from rfl, sB_list, lib_cut] at this
  refine this.mono ?_
  rintro e w' ⟨he, n, rfl⟩
  exact ⟨he, below_drewN (Below.refl _ _) n⟩
theorem cutC_len (c : UInt8) : ∀ l : List UInt8, (cutC c l).1.length ≤ l.length ∧ (cutC c l).2.length ≤ l.length
  | [] => ⟨Nat.le_refl _, Nat.le_refl _⟩
  | b :: r => by
    have := cutC_len c r
    rw [cutC]
    split
    · simp
    · simp; omega
def linesB (s : ByteArray) : List ByteArray := Lib.splitB ⟨#[44]⟩ 0 (Lib.countB s ⟨#[44]⟩) s
theorem linesB_len (s : ByteArray) : (linesB s).length = Lib.countB s ⟨#[44]⟩ + 1 := Lib.splitB_all ⟨#[44]⟩ (by decide) 0 _ s rfl
theorem linesB_le (s : ByteArray) : (linesB s).length ≤ s.size + 1 := by
  rw [linesB_len]
  have := Lib.countB_le ⟨#[44]⟩ (by decide) s.size s (Nat.le_refl _)
  omega
theorem words_le (c : UInt8) : ∀ (s w : List UInt8), w ∈ wordsC c s → w.length ≤ s.length
  | [], w, h => by
    have : wordsC c [] = [[]] := rfl
    rw [this] at h
    simp at h
    rw [h]
    exact Nat.le_refl _
  | b :: r, w, h => by
    rw [wordsC] at h
    split at h
    · rcases List.mem_cons.1 h with rfl | h
      · simp
      · have := words_le c r w h
        simp
        omega
    · have hall := fun u hu => words_le c r u hu
      generalize wordsC c r = ws at *
      cases ws with
      | nil => simp [addW] at h; rw [h]; simp
      | cons u us =>
        simp [addW] at h
        rcases h with rfl | h
        · have := hall u (List.mem_cons_self ..)
          simp
          omega
        · have := hall w (List.mem_cons_of_mem _ h)
          simp
          omega
theorem split_any (s : List UInt8) (w : World) (hs : s.length ≤ 100000) (hw : Wd w) :
    Calls Tryz.prog 42 #[.string (sB s), .string ⟨#[44]⟩] w fun e w' => e = .returned (.slice (some ⟨w.heap.size, 0, none⟩) (wordsC 44 s).length (wordsC 44 s).length) ∧ w' = w.alloc (.cells ((wordsC 44 s).map fun x => Value.string (sB x)).toArray 9) := by
  obtain ⟨m, hm⟩ := hw.mx
  have h1 := Any.strings_Split { Tryz.laysM146 with } Tryz.laysM146.i9 (sB s) ⟨#[44]⟩ m w (by rw [sB_size]; omega) hm (by decide)
  have e1 : (linesB (sB s)).map (·.data.toList) = wordsC 44 s := by
    have := split_wordsC 44 (sB s)
    rw [sB_list] at this
    exact this
  have e2 : (wordsC 44 s).length = (linesB (sB s)).length := by rw [← e1, List.length_map]
  have e3 : ((wordsC 44 s).map fun x => Value.string (sB x)) = (linesB (sB s)).map Value.string := by
    rw [← e1, List.map_map]
    apply List.map_congr_left
    intro x hx
    show Value.string (sB x.data.toList) = _
    rw [sB_of]
  rw [e2, e3, linesB_len]
  exact h1
theorem wdsA_step {C : List Spn} {W : List (List UInt8)} {k : Nat} {u : List UInt8} (hk : W[k]? = some u) : wdsA C (W.drop k) = (match wdV u with | some x => wdsA (C ++ [x]) (W.drop (k + 1)) | none => none) := by
  obtain ⟨h, e⟩ := List.getElem?_eq_some_iff.1 hk
  rw [List.drop_eq_getElem_cons h, e]
  rfl
end Go.Proofs.YteojlodcafogaaaGreatDoor
