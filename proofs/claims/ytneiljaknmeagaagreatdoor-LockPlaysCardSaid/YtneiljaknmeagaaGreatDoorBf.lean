/-
  The builder, numbers and Text. The conditions of the contracts are their hypotheses.
-/
import Derived.Test.YtneiljaknmeagaaGreatDoorBc
import Derived.Laws.Externs
import Derived.Lib.Builder
import Derived.Shelf.Strings.Builder1
import Derived.Lib.ItoaLen
import Derived.Lib.AppendIntMem
import Derived.Deep.RegionHeld3
import Derived.BigRegion
namespace Go.Proofs.YtneiljaknmeagaaGreatDoor
open Go.RowKit Go.Joins
set_option linter.unusedVariables false
set_option linter.unusedSimpArgs false
theorem i5 : (Tryz.prog.info? 5).map (fun i => (i.zero, i.size, i.bytes)) = some (some (.int .u8 0), 1, 1) := by kernel_rfl
/-- What is no builder and no row of bytes is as it was. -/
def KeepO (w w' : World) : Prop := ∀ (g : Nat) (cs : Array Value) (t : TypeId), t ≠ 5 → t ≠ 72 → w.heap[g]? = some (.cells cs t (0, 0)) → w'.heap[g]? = some (.cells cs t (0, 0))
theorem KeepO.refl (w : World) : KeepO w w := fun _ _ _ _ _ h => h
theorem KeepO.trans {a b c : World} (h : KeepO a b) (k : KeepO b c) : KeepO a c := fun g cs t h1 h2 h3 => k g cs t h1 h2 (h g cs t h1 h2 h3)
theorem KeepO.ext {w w' : World} (hb : Below w.heap.size w w') : KeepO w w' := fun g cs t _ _ h => (hb.block g (Array.getElem?_eq_some_iff.1 h).1).trans h
theorem KeepO.put {w : World} {b : Nat} {cs0 : Array Value} (hb : w.heap[b]? = some (.cells cs0 72 (0, 0))) (i : Nat) (u : Value) : KeepO w (w.setCell ⟨b, i, none⟩ u) := by
  intro g cs t h1 h2 h3
  refine (Below.heap_setCell w ⟨b, i, none⟩ u g ?_).trans h3
  show g ≠ b
  rintro rfl
  rw [hb] at h3
  cases h3
  exact h2 rfl
theorem KeepO.grown {w w' : World} {B : Nat} {v : Value} {n : Nat} {xs : List Value} (ho : w.ownsRow B 5 1 v n xs) (hg : w.grownBy w' v.ownBlock) : KeepO w w' := by
  intro g cs t h1 h2 h3
  refine (hg.block g (Array.getElem?_eq_some_iff.1 h3).1 ?_).trans h3
  intro e
  obtain ⟨cur, hc⟩ := own_block ho e.symm
  rw [h3] at hc
  cases hc
  exact h1 rfl
abbrev BldI (B b : Nat) (l : List UInt8) (w : World) : Prop := Lib.IsBuilder 72 5 B b (Lib.byteCells l) w
abbrev BldA (B b : Nat) (l : List UInt8) (w : World) : Prop := Lib.BuilderAt 72 5 B b (.pointer (some ⟨b, 0, none⟩)) (Lib.byteCells l) w
theorem szB : (Tryz.prog.info? 72).map (·.size) = some 2 := by kernel_rfl
theorem liesB : liesAt Tryz.prog Tryz.prog.depth 72 (2 / Tryz.prog.cellsOf 72) 0 72 1 = true := by kernel_rfl
theorem uPB : Tryz.prog.underlying 69 = some (.pointer 72) := by kernel_rfl
theorem uUP : Tryz.prog.underlying 118 = some .unsafePointer := by kernel_rfl
theorem copy_any (B b : Nat) (l : List UInt8) (w : World) (h : BldI B b l w) :
    Calls Tryz.prog 59 #[.pointer (some ⟨b, 0, none⟩)] w fun e w' => e = .returned (.tuple #[]) ∧ BldA B b l w' ∧ Below B w w' ∧ KeepO w w' := by
  obtain ⟨j, hj, hjs⟩ := Option.map_eq_some_iff.1 szB
  rcases h with h | h
  · have h0 := h.cell0
    have hsh := h.shape
    have hfz := h.frozen0
    have H := Lib.hid h
    clear h
    have e1 : (convert 69 118 (.pointer (some ⟨b, 0, none⟩))).run Tryz.prog w = .ok (.pointer (some ⟨b, 0, none⟩)) w := Lib.run_to_unsafe w ⟨b, 0, none⟩ uPB uUP hj (by rw [hjs]; decide) hsh (Nat.zero_lt_succ 1)
    have e2 : (convert 118 69 (.pointer (some ⟨b, 0, none⟩))).run Tryz.prog w = .ok (.pointer (some ⟨b, 0, none⟩)) w := Lib.run_from_unsafe w ⟨b, 0, none⟩ uUP uPB hj hsh liesB
    have e3 : (callFunc 81 #[.pointer (some ⟨b, 0, none⟩)]).run Tryz.prog w = .ok (.value (.pointer (some ⟨b, 0, none⟩))) w := by
      rw [run_callFunc_extern Tryz.func81 (by kernel_rfl) (by kernel_rfl) (by kernel_rfl) (e := Extern.AbiNoEscape.same) (by kernel_rfl), Lib.run_noEscape]
      rfl
    go_enter Tryz.func59, Tryz.ntmps59
    go_wp2_with fail
    go_end0
    obtain ⟨_, v9, hb9, _⟩ := H.out
    exact ⟨rfl, H.out.used _, (Below.refl B w).setCell (p := ⟨b, 0, none⟩) H.out.1 _, KeepO.put hb9 _ _⟩
  · have h0 := h.cell0
    have H := Lib.hid h
    clear h
    have e1 := Lib.run_neq_ptr_same (P := Tryz.prog) w ⟨b, 0, none⟩ uPB hj
    go_enter Tryz.func59, Tryz.ntmps59
    go_wp2_with fail
    go_end0
    exact ⟨rfl, H.out, Below.refl B _, KeepO.refl _⟩
theorem byteCells_app (l r : List UInt8) : Lib.byteCells (l ++ r) = Lib.byteCells l ++ Lib.byteCells r := by simp [Lib.byteCells]
theorem bld_one {B b : Nat} {l : List UInt8} {w : World} (h : BldA B b l w) : BldI B b l w := .inr h
theorem BldA.block {B b : Nat} {l : List UInt8} {w : World} (h : BldA B b l w) : ∃ v, w.heap[b]? = some (.cells #[.pointer (some ⟨b, 0, none⟩), v] 72 (0, 0)) ∧ w.ownsRow B 5 1 v l.length (Lib.byteCells l) ∧ v.ownBlock ≠ some b := by
  obtain ⟨_, v, h1, h2, h3⟩ := h
  rw [Lib.byteCells_length] at h2
  exact ⟨v, h1, h2, h3⟩
theorem wbyte_any (B b : Nat) (l : List UInt8) (c : UInt8) (w : World) (h : BldI B b l w) (hl : l.length ≤ 1000000000) (hBw : B ≤ w.heap.size) :
    Calls Tryz.prog 33 #[.pointer (some ⟨b, 0, none⟩), .int .u8 c.toNat] w fun e w' => e = .returned .nilIface ∧ BldA B b (l ++ [c]) w' ∧ Below B w w' ∧ KeepO w w' := by
  obtain ⟨i0, hi, hz0, hz1, hz2⟩ := info_parts i5
  have HI0 := Lib.hid (And.intro hi (And.intro hz0 (And.intro hz1 hz2)))
  have H := Lib.hid h
  clear hi hz0 hz1 hz2 h
  go_enter Tryz.func33, Tryz.ntmps33
  go_wp2_with fail
  refine (copy_any B b l _ H.out).mono ?_
  rintro e w1 ⟨rfl, h1, hb1, hk1⟩
  obtain ⟨v, hbk, hown, hne⟩ := h1.block
  have HK := Lib.hid hbk
  have HO := Lib.hid hown
  have HN := Lib.hid hne
  have HB := Lib.hid (And.intro h1.1 hb1)
  have HK1 := Lib.hid hk1
  clear hk1
  have hsz := Nat.le_trans hBw hb1.size
  have c0 : w1.cell? ⟨b, 0, none⟩ = some (.pointer (some ⟨b, 0, none⟩)) := by rw [Lib.cell_of_heap hbk]; rfl
  have c1 : w1.cell? ⟨b, 1, none⟩ = some v := by rw [Lib.cell_of_heap hbk]; rfl
  clear hbk hown hne h1 hb1
  go_wp2_with (at_builtin; refine wpList_append_own _ rfl _ _ 70 rfl B 5 i0 (.int .u8 0) 1 1 Tryz.underlying70 HI0.out.1 HI0.out.2.1 HI0.out.2.2.1 HI0.out.2.2.2 rfl (by decide) v l.length (Lib.byteCells l) rfl (HO.out.alloc _) ⟨w1.heap.size, 0, none⟩ 1 1 [.int .u8 c.toNat] rfl rfl (CellsAt.all (by simp [CellsAt, go_sem])) (by simp [Value.oneCell']) (by simp only [maxLen]; omega) (by omega) (by simp; omega) ?_)
  intro v' w2 hown' hgrow _
  have hlt : b < w1.heap.size := (Array.getElem?_eq_some_iff.1 HK.out).1
  have hb2 : w2.heap[b]? = some (.cells #[.pointer (some ⟨b, 0, none⟩), v] 72 (0, 0)) := by
    rw [hgrow.block b (by simp; omega) (fun e => HN.out e.symm), Lib.alloc_old w1 _ b hlt]
    exact HK.out
  have d0 : w2.cell? ⟨b, 0, none⟩ = some (.pointer (some ⟨b, 0, none⟩)) := by rw [Lib.cell_of_heap hb2]; rfl
  have d1 : w2.cell? ⟨b, 1, none⟩ = some v := by rw [Lib.cell_of_heap hb2]; rfl
  have f1 : w2.frozen? ⟨b, 1, none⟩ = false := Lib.frozen_of_heap hb2 1
  obtain ⟨g, cap, rfl, _, _⟩ := hown'.form (by omega)
  have HR := Lib.hid (show BldA B b (l ++ [c]) (w2.setCell ⟨b, 1, none⟩ (.slice (some ⟨g, 0, none⟩) (l.length + 1) cap)) from Lib.BuilderAt.put HB.out.1 hb2 (by rw [byteCells_app, List.length_append, Lib.byteCells_length]; exact hown') (by decide))
  have HG := Lib.hid (show Below B w (w2.setCell ⟨b, 1, none⟩ (.slice (some ⟨g, 0, none⟩) (l.length + 1) cap)) from ((HB.out.2.alloc hsz _).grown hgrow (by simp; omega) (own_base HO.out)).setCell (p := ⟨b, 1, none⟩) HB.out.1 _)
  have HKK := Lib.hid (((HK1.out.trans (KeepO.ext (below_one w1 _))).trans (KeepO.grown (HO.out.alloc _) hgrow)).trans (KeepO.put hb2 1 (.slice (some ⟨g, 0, none⟩) (l.length + 1) cap)))
  clear hown' hgrow hb2
  go_wp2_with fail
  go_ret
  exact ⟨rfl, HR.out, HG.out, HKK.out⟩
theorem wstr_any (B b : Nat) (l : List UInt8) (s : ByteArray) (w : World) (h : BldI B b l w) (hl : l.length ≤ 1000000000) (hs : s.size ≤ 1000000000) (h0 : 0 < s.size) (hBw : B ≤ w.heap.size) :
    Calls Tryz.prog 31 #[.pointer (some ⟨b, 0, none⟩), .string s] w fun e w' => e = .returned (.tuple #[.int .i64 s.size, .nilIface]) ∧ BldA B b (l ++ s.data.toList) w' ∧ Below B w w' ∧ KeepO w w' := by
  obtain ⟨i0, hi, hz0, hz1, hz2⟩ := info_parts i5
  have HI0 := Lib.hid (And.intro hi (And.intro hz0 (And.intro hz1 hz2)))
  have H := Lib.hid h
  clear hi hz0 hz1 hz2 h
  go_enter Tryz.func31, Tryz.ntmps31
  go_wp2_with fail
  refine (copy_any B b l _ H.out).mono ?_
  rintro e w1 ⟨rfl, h1, hb1, hk1⟩
  obtain ⟨v, hbk, hown, hne⟩ := h1.block
  have HK := Lib.hid hbk
  have HO := Lib.hid hown
  have HN := Lib.hid hne
  have HB := Lib.hid (And.intro h1.1 hb1)
  have HK1 := Lib.hid hk1
  clear hk1
  have hsz := Nat.le_trans hBw hb1.size
  have c0 : w1.cell? ⟨b, 0, none⟩ = some (.pointer (some ⟨b, 0, none⟩)) := by rw [Lib.cell_of_heap hbk]; rfl
  have c1 : w1.cell? ⟨b, 1, none⟩ = some v := by rw [Lib.cell_of_heap hbk]; rfl
  clear hbk hown hne h1 hb1
  go_wp2_with (at_builtin; refine Lib.wpList_append_own_string _ rfl _ _ 70 9 rfl B 5 i0 Tryz.underlying70 Tryz.underlying9 HI0.out.1 HI0.out.2.1 HI0.out.2.2.1 HI0.out.2.2.2 v l.length (Lib.byteCells l) rfl HO.out s rfl (by simp only [maxLen]; omega) (by omega) hsz ?_)
  intro v' w2 hown' hgrow _
  have hlt : b < w1.heap.size := (Array.getElem?_eq_some_iff.1 HK.out).1
  have hb2 : w2.heap[b]? = some (.cells #[.pointer (some ⟨b, 0, none⟩), v] 72 (0, 0)) := by
    rw [hgrow.block b hlt (fun e => HN.out e.symm)]
    exact HK.out
  have d0 : w2.cell? ⟨b, 0, none⟩ = some (.pointer (some ⟨b, 0, none⟩)) := by rw [Lib.cell_of_heap hb2]; rfl
  have d1 : w2.cell? ⟨b, 1, none⟩ = some v := by rw [Lib.cell_of_heap hb2]; rfl
  have f1 : w2.frozen? ⟨b, 1, none⟩ = false := Lib.frozen_of_heap hb2 1
  obtain ⟨g, cap, rfl, _, _⟩ := hown'.form (by omega)
  have HR := Lib.hid (show BldA B b (l ++ s.data.toList) (w2.setCell ⟨b, 1, none⟩ (.slice (some ⟨g, 0, none⟩) (l.length + s.size) cap)) from Lib.BuilderAt.put HB.out.1 hb2 (by rw [byteCells_app, List.length_append, Lib.byteCells_length, show (Lib.byteCells s.data.toList).length = s.size by rw [Lib.byteCells_length]; simp]; exact hown') (by decide))
  have HG := Lib.hid (show Below B w (w2.setCell ⟨b, 1, none⟩ (.slice (some ⟨g, 0, none⟩) (l.length + s.size) cap)) from (HB.out.2.grown hgrow hsz (own_base HO.out)).setCell (p := ⟨b, 1, none⟩) HB.out.1 _)
  have HKK := Lib.hid ((HK1.out.trans (KeepO.grown HO.out hgrow)).trans (KeepO.put hb2 1 (.slice (some ⟨g, 0, none⟩) (l.length + s.size) cap)))
  clear hown' hgrow hb2
  go_wp2_with fail
  go_ret2
  exact ⟨rfl, HR.out, HG.out, HKK.out⟩
end Go.Proofs.YtneiljaknmeagaaGreatDoor
namespace Go.Proofs.YtneiljaknmeagaaGreatDoor
open Go.RowKit Go.Joins
set_option linter.unusedVariables false
set_option linter.unusedSimpArgs false
abbrev Tab (w : World) : Prop := Lib.TabIs Tryz.prog w "internal/strconv.uint64pow10" .u64 Lib.pow10Tab
theorem Tab.on {w w' : World} (h : Tab w) (hb : Below w.heap.size w w') : Tab w' := ((Lib.tabBelow_of_tabIs h).on hb).here
abbrev I64 (n : Int) : Prop := -9223372036854775808 ≤ n ∧ n ≤ 9223372036854775807
theorem dec_any (n : Int) (w : World) (hn : I64 n) (ht : Tab w) :
    Calls Tryz.prog 32 #[.int .i64 n] w fun e w' => e = .returned (.string (sB (Lib.itoa n))) ∧ Below w.heap.size w w' := by
  have HT := Lib.hid ht
  obtain ⟨h0, h1⟩ := hn
  clear ht
  go_enter Tryz.func32, Tryz.ntmps32
  go_wp2_with fail
  refine (Tryz.strconv_FormatInt_10 n h0 h1 w HT.out).mono ?_
  rintro e w' ⟨rfl, kk, os, hw'⟩
  have G := Lib.hid (show Below w.heap.size w w' by rw [hw']; exact Lib.below_grow _ w (Nat.le_refl _) kk os)
  clear hw'
  go_wp2_with fail
  go_ret
  exact ⟨rfl, G.out⟩
theorem BldI.ext {B b : Nat} {l : List UInt8} {w w' : World} (h : BldI B b l w) (hb : Below w.heap.size w w') : BldI B b l w' := by
  rcases h with h | h
  · obtain ⟨h1, v, h2, h3, h4⟩ := h
    exact .inl ⟨h1, v, (hb.block b (Array.getElem?_eq_some_iff.1 h2).1).trans h2, ownsRow_below h3 hb (Nat.le_refl _), h4⟩
  · obtain ⟨h1, v, h2, h3, h4⟩ := h
    exact .inr ⟨h1, v, (hb.block b (Array.getElem?_eq_some_iff.1 h2).1).trans h2, ownsRow_below h3 hb (Nat.le_refl _), h4⟩
theorem BldI.lt {B b : Nat} {l : List UInt8} {w : World} (h : BldI B b l w) : b < w.heap.size := by rcases h with h | h <;> exact h.lt
theorem BldI.ge {B b : Nat} {l : List UInt8} {w : World} (h : BldI B b l w) : B ≤ b := by rcases h with h | h <;> exact h.1
/-- The numbers of a line, and a line. -/
def numsT (ns : List Int) : List UInt8 := ns.flatMap fun n => 32 :: Lib.itoa n
def lineT (word : List UInt8) (ns : List Int) : List UInt8 := word ++ numsT ns ++ [10]
theorem numsT_len : ∀ {ns : List Int}, (∀ n ∈ ns, I64 n) → (numsT ns).length ≤ 22 * ns.length
  | [], _ => by simp [numsT]
  | n :: r, h => by
    have h1 := h n (by simp)
    have h2 := Lib.itoa_length_le n (by have := h1.1; omega) (by have := h1.2; omega)
    have h3 := numsT_len (ns := r) (fun m hm => h m (by simp [hm]))
    unfold numsT at *
    simp only [List.flatMap_cons, List.length_append, List.length_cons]
    omega
theorem numsT_snoc {ns : List Int} {k : Nat} {n : Int} (h : ns[k]? = some n) : numsT (ns.take (k + 1)) = numsT (ns.take k) ++ 32 :: Lib.itoa n := by
  rw [List.take_add_one, h]
  simp [numsT]
set_option maxHeartbeats 1000000 in
theorem line_any (B b g c : Nat) (l word : List UInt8) (ns : List Int) (w : World) (h : BldI B b l w) (hg : w.heap[g]? = some (.cells (ns.map (Value.int .i64)).toArray 2 (0, 0))) (hw0 : 0 < word.length)
    (hB : B ≤ w.heap.size) (ht : Lib.TabBelow Tryz.prog B w "internal/strconv.uint64pow10" .u64 Lib.pow10Tab) (hns : ∀ n ∈ ns, I64 n) (hl : l.length + word.length + 22 * ns.length ≤ 1000000) :
    Calls Tryz.prog 30 #[.string (sB word), .slice (some ⟨g, 0, none⟩) ns.length c, .pointer (some ⟨b, 0, none⟩)] w fun e w' => e = .returned (.tuple #[]) ∧ BldA B b (l ++ lineT word ns) w' ∧ Below B w w' := by
  have H := Lib.hid h
  have HT := Lib.hid ht
  have HNS := Lib.hid hns
  have HG := Lib.hid hg
  have HBW := Lib.hid hB
  have hbB := h.ge
  unfold lineT
  clear h ht hns hg hB
  go_enter Tryz.func30, Tryz.ntmps30
  go_wp2_with fail
  refine (wstr_any B b l (sB word) w H.out (by omega) (by rw [sB_size]; omega) (by rw [sB_size]; exact hw0) HBW.out).mono ?_
  rintro e w1 ⟨rfl, h1, hb1, hk1⟩
  rw [sB_list] at h1
  have A1 := Lib.hid h1
  have G1 := Lib.hid hb1
  have K1 := Lib.hid hk1
  clear h1 hb1 hk1
  go_wp2_with fail
  go_loopw [11] (fun i wr => ∃ k : Nat, k ≤ ns.length ∧ i = .int .i64 k ∧ Hid (BldA B b (l ++ word ++ numsT (ns.take k)) wr) ∧ Hid (Below B w wr) ∧ Hid (KeepO w wr)) (fun i _ => ns.length - (intOf i).toNat)
  case atStart => exact ⟨0, by omega, rfl, Lib.hid (by simpa [numsT] using A1.out), G1, K1⟩
  case round =>
    obtain ⟨k, hk, rfl, A, G, K⟩ := hrel
    have hlen := numsT_len (ns := ns.take k) (fun n hn => HNS.out n (List.mem_of_mem_take hn))
    have hlt' := List.length_take_le k ns
    have hBr := G.out.size
    by_cases hlt : k < ns.length
    · have hlt2 : (k : Int) < (ns.length : Int) := by omega
      obtain ⟨n, hn⟩ : ∃ n, ns[k]? = some n := ⟨_, List.getElem?_eq_getElem hlt⟩
      have HN := Lib.hid hn
      have hgr := K.out g _ _ (by decide) (by decide) HG.out
      have hc : wr.cell? ⟨g, k, none⟩ = some (.int .i64 n) := by rw [cell_of_block hgr k]; simp [hn]
      have hgw : g < wr.heap.size := (Array.getElem?_eq_some_iff.1 hgr).1
      have HI := Lib.hid (HNS.out n (List.mem_of_getElem? hn))
      clear hn hgr
      go_wp2_with fail
      refine (dec_any n wr HI.out ((HT.out.on G.out).here)).mono ?_
      rintro e w2 ⟨rfl, hb2⟩
      have hil := Lib.itoa_length_le n (by have := HI.out.1; omega) (by have := HI.out.2; omega)
      have A2 := Lib.hid (BldI.ext (.inr A.out) hb2)
      have G2 := Lib.hid (G.out.trans (hb2.mono (by have := HBW.out; omega)))
      have K2 := Lib.hid (K.out.trans (KeepO.ext hb2))
      have hB2 : B ≤ w2.heap.size := by have := HBW.out; have := hb2.size; omega
      have y := fun w' => show (Op.stringOp .add ⟨#[32]⟩ (sB (Lib.itoa n))).run Tryz.prog w' = .ok (.string (sB (32 :: Lib.itoa n))) w' from add_sB (a := [32]) (by simp; omega) w'
      clear hb2 hc
      go_wp2_with fail
      refine (wstr_any B b (l ++ word ++ numsT (ns.take k)) (sB (32 :: Lib.itoa n)) w2 A2.out (by simp; omega) (by rw [sB_size]; simp; omega) (by rw [sB_size]; simp) hB2).mono ?_
      rintro e w3 ⟨rfl, h3, hb3, hk3⟩
      rw [sB_list, List.append_assoc, ← numsT_snoc HN.out] at h3
      have A3 := Lib.hid h3
      have G3 := Lib.hid (G2.out.trans hb3)
      have K3 := Lib.hid (K2.out.trans hk3)
      clear h3 hb3 hk3 y
      go_wp2_with fail
      go_roundw
      case rel => exact ⟨k + 1, by omega, by go_num, A3, G3, K3⟩
      case measure => simp [intOf]; omega
    · obtain rfl : k = ns.length := by omega
      rw [List.take_length] at A hlen
      have hB2 : B ≤ wr.heap.size := by have := HBW.out; omega
      clear hlt
      go_wp2_with fail
      refine (wbyte_any B b (l ++ word ++ numsT ns) 10 wr (.inr A.out) (by simp; omega) hB2).mono ?_
      rintro e w3 ⟨rfl, h3, hb3, hk3⟩
      have A3 := Lib.hid h3
      have G3 := Lib.hid (G.out.trans hb3)
      clear h3 hb3 hk3
      go_wp2_with fail
      go_end0
      exact ⟨rfl, by rw [← List.append_assoc, ← List.append_assoc]; exact A3.out, G3.out⟩
end Go.Proofs.YtneiljaknmeagaaGreatDoor
namespace Go.Proofs.YtneiljaknmeagaaGreatDoor
open Go.RowKit Go.Joins
set_option linter.unusedVariables false
set_option linter.unusedSimpArgs false
def locksW : List UInt8 := [76, 79, 67, 75, 83]
def sessionW : List UInt8 := [83, 69, 83, 83, 73, 79, 78]
def leaseW : List UInt8 := [76, 69, 65, 83, 69, 32]
def textS (S : List Int) : List UInt8 := S.flatMap fun s => lineT sessionW [s]
def textL (L : List Ls) : List UInt8 := L.flatMap fun x => lineT (leaseW ++ x.reel) [x.ses, x.fen, x.unt]
/-- The text of a table. -/
def textT (T : Tb) : List UInt8 := lineT locksW [T.now, T.ls, T.lf] ++ textS T.ses ++ textL T.lea
/-- A table whose numbers are numbers and whose rows are not long. -/
def Fit (T : Tb) : Prop := I64 T.now ∧ I64 T.ls ∧ I64 T.lf ∧ (∀ s ∈ T.ses, I64 s) ∧ T.ses.length ≤ 1000 ∧ T.lea.length ≤ 1000 ∧ ∀ x ∈ T.lea, x.reel.length ≤ 100 ∧ I64 x.ses ∧ I64 x.fen ∧ I64 x.unt
theorem lineT_len {word : List UInt8} {ns : List Int} (h : ∀ n ∈ ns, I64 n) : (lineT word ns).length ≤ word.length + 22 * ns.length + 1 := by
  have := numsT_len h
  unfold lineT
  simp only [List.length_append, List.length_cons, List.length_nil]
  omega
theorem textS_len : ∀ {S : List Int}, (∀ s ∈ S, I64 s) → (textS S).length ≤ 30 * S.length
  | [], _ => by simp [textS]
  | s :: r, h => by
    have h1 := lineT_len (word := sessionW) (ns := [s]) (by simpa using h s (by simp))
    have h2 := textS_len (S := r) (fun m hm => h m (by simp [hm]))
    unfold textS at *
    rw [List.flatMap_cons, List.length_append]
    have e : sessionW.length = 7 := rfl
    simp only [List.length_cons, List.length_nil] at h1 ⊢
    omega
theorem textL_len : ∀ {L : List Ls}, (∀ x ∈ L, x.reel.length ≤ 100 ∧ I64 x.ses ∧ I64 x.fen ∧ I64 x.unt) → (textL L).length ≤ 173 * L.length
  | [], _ => by simp [textL]
  | x :: r, h => by
    obtain ⟨g0, g1, g2, g3⟩ := h x (by simp)
    have h1 := lineT_len (word := leaseW ++ x.reel) (ns := [x.ses, x.fen, x.unt]) (by
      intro n hn
      simp at hn
      rcases hn with rfl | rfl | rfl <;> assumption)
    have h2 := textL_len (L := r) (fun m hm => h m (by simp [hm]))
    unfold textL at *
    rw [List.flatMap_cons, List.length_append]
    have e : leaseW.length = 6 := rfl
    simp only [List.length_cons, List.length_nil, List.length_append] at h1 ⊢
    omega
theorem textS_snoc {S : List Int} {k : Nat} {s : Int} (h : S[k]? = some s) : textS (S.take (k + 1)) = textS (S.take k) ++ lineT sessionW [s] := by
  rw [List.take_add_one, h]
  simp [textS]
theorem textL_snoc {L : List Ls} {k : Nat} {x : Ls} (h : L[k]? = some x) : textL (L.take (k + 1)) = textL (L.take k) ++ lineT (leaseW ++ x.reel) [x.ses, x.fen, x.unt] := by
  rw [List.take_add_one, h]
  simp [textL]
set_option maxRecDepth 100000 in
set_option maxHeartbeats 2000000 in
theorem text_any (B0 p : Nat) (sv lv : Value) (T : Tb) (w : World) (h : Rep B0 p sv lv T w) (hf : Fit T) (ht : Tab w) :
    Calls Tryz.prog 8 #[.pointer (some ⟨p, 0, none⟩)] w fun e w' => e = .returned (.string (sB (textT T))) ∧ Below w.heap.size w w' := by
  obtain ⟨f0, f1, f2, f3, f4, f5, f6⟩ := hf
  have HR := Lib.hid h
  have q := h.block.cell
  have hpw := h.lt
  obtain ⟨SA, sc, rfl, hsr, hsc, hsm⟩ := ints_of_own h.2.2.1
  obtain ⟨LA, lc, rfl, hlr, hlc, hlm, hfl⟩ := row_of_ownK h.2.2.2
  have HSR := Lib.hid hsr
  have HLR := Lib.hid hlr
  have HF3 := Lib.hid f3
  have HF6 := Lib.hid f6
  have HF0 := Lib.hid (And.intro f0 (And.intro f1 f2))
  have HLN := Lib.hid (textS_len f3)
  obtain ⟨B, hB⟩ : ∃ B, B = w.heap.size := ⟨_, rfl⟩
  have HTB := Lib.hid (show Lib.TabBelow Tryz.prog B w "internal/strconv.uint64pow10" .u64 Lib.pow10Tab from hB ▸ Lib.tabBelow_of_tabIs ht)
  have HB := Lib.hid hB
  rw [← hB]
  clear hfl hlr hsr hsm h ht f0 f1 f2 f3 f6
  unfold textT
  go_enter Tryz.func8, Tryz.ntmps8
  go_wp2_with fail
  rw [← hB]
  generalize hw1 : World.alloc _ _ = w1
  have BI := Lib.hid (show BldI B B [] w1 by subst hw1; rw [hB]; exact Lib.fresh_isBuilder _ _ w)
  have G := Lib.hid (show Below B w w1 by subst hw1; rw [hB]; exact below_one _ _)
  have hpB : p < B := by omega
  clear hw1 hB
  have q0 : w1.cell? ⟨p, 0, none⟩ = some (.int .i64 T.now) := (G.out.cell (p := ⟨p, 0, none⟩) hpB).trans (q 0)
  have q1 : w1.cell? ⟨p, 1, none⟩ = some (.int .i64 T.ls) := (G.out.cell (p := ⟨p, 1, none⟩) hpB).trans (q 1)
  have q2 : w1.cell? ⟨p, 2, none⟩ = some (.int .i64 T.lf) := (G.out.cell (p := ⟨p, 2, none⟩) hpB).trans (q 2)
  have HQ := Lib.hid q
  clear q
  have hBw1 : B ≤ w1.heap.size := Nat.le_of_lt BI.out.lt
  have hpw1 : p < w1.heap.size := by omega
  have hbp : B ≠ p := by omega
  go_wp2_with fail
  go_region_held3 (fun w' => w'.cell? ⟨p, 0, none⟩ = some (.int .i64 T.now) ∧ w'.cell? ⟨p, 1, none⟩ = some (.int .i64 T.ls) ∧ w'.cell? ⟨p, 2, none⟩ = some (.int .i64 T.lf))
    (first
      | go_keep
      | (go_split_ands
         refine ⟨?_, ?_, ?_⟩
         · (rw [hb4.cell (p := ⟨p, 0, none⟩) hpB]; assumption)
         · (rw [hb4.cell (p := ⟨p, 1, none⟩) hpB]; assumption)
         · (rw [hb4.cell (p := ⟨p, 2, none⟩) hpB]; assumption)))
    ((go_at_call 30
      go_loud (refine (line_any B B w1.heap.size 3 [] locksW [T.now, T.ls, T.lf] _ (BldI.ext BI.out ((below_one w1 _).drew)) (heap_at w1 _ rfl) (by decide) (by simp; omega) (HTB.out.on ((G.out.alloc hBw1 _).drew)) (by simp; exact HF0.out) (by simp [locksW])).mono ?_)
      rintro e w4 ⟨rfl, hA4, hb4⟩))
  have HA := Lib.hid (show BldA B B (lineT locksW [T.now, T.ls, T.lf]) w4 by simpa using hA4)
  have G4 := Lib.hid (show Below B w w4 from ((G.out.alloc hBw1 _).drew).trans hb4)
  have HL0 := Lib.hid (show (lineT locksW [T.now, T.ls, T.lf]).length ≤ 72 by
    have := lineT_len (word := locksW) (ns := [T.now, T.ls, T.lf]) (by simp; exact HF0.out)
    have e : locksW.length = 5 := rfl
    simp only [List.length_cons, List.length_nil] at this
    omega)
  generalize hX0 : lineT locksW [T.now, T.ls, T.lf] = X0 at *
  have HX0 := Lib.hid hX0
  clear hX0
  clear hA4 hb4 q0 q1 q2
  have q : ∀ i, w4.cell? ⟨p, i, none⟩ = ([.int .i64 T.now, .int .i64 T.ls, .int .i64 T.lf, .slice SA T.ses.length sc, .slice LA T.lea.length lc] : List Value)[i]? := fun i => (G4.out.cell (p := ⟨p, i, none⟩) hpB).trans (HQ.out i)
  have hBw4 : B < w4.heap.size := HA.out.lt
  have hpw4 : p < w4.heap.size := by omega
  go_wp2_with fail
  clear q
  go_loopw [32] (fun i wr => ∃ k : Nat, k ≤ T.ses.length ∧ i = .int .i64 k ∧ Hid (BldA B B (X0 ++ textS (T.ses.take k)) wr) ∧ Hid (Below B w wr)) (fun i _ => T.ses.length - (intOf i).toNat)
  case atStart => exact ⟨0, by omega, rfl, Lib.hid (by simpa [textS] using HA.out), G4⟩
  case round =>
    obtain ⟨k, hk, rfl, A, GG⟩ := hrel
    have hBr : B < wr.heap.size := A.out.lt
    by_cases hlt : k < T.ses.length
    · have hlt2 : (k : Int) < (T.ses.length : Int) := by omega
      have hln := textS_len (S := T.ses.take k) (fun n hn => HF3.out n (List.mem_of_mem_take hn))
      have hlt' := List.length_take_le k T.ses
      have hl0 := HL0.out
      obtain ⟨n, hn⟩ : ∃ n, T.ses[k]? = some n := ⟨_, List.getElem?_eq_getElem hlt⟩
      have HN := Lib.hid hn
      obtain ⟨b, o, rfl, hc⟩ := (HSR.out.below (HB.out ▸ GG.out) (Nat.le_refl _)) k (.int .i64 n) (by rw [List.getElem?_map, hn]; rfl)
      have HI := Lib.hid (HF3.out n (List.mem_of_getElem? hn))
      clear hn
      go_wp2_with fail
      refine (line_any B B wr.heap.size 1 (X0 ++ textS (T.ses.take k)) sessionW [n] _ (BldI.ext (.inr A.out) (below_one wr _)) (heap_at wr _ rfl) (by decide) (by simp; omega) (HTB.out.on (GG.out.alloc (Nat.le_of_lt hBr) _)) (by simpa using HI.out) (by simp [sessionW]; omega)).mono ?_
      rintro e w5 ⟨rfl, h5, hb5⟩
      rw [List.append_assoc, ← textS_snoc HN.out] at h5
      have A5 := Lib.hid h5
      have G5 := Lib.hid ((GG.out.alloc (Nat.le_of_lt hBr) _).trans hb5)
      clear h5 hb5 hc hln hlt' hl0
      go_wp2_with fail
      go_roundw
      case rel => exact ⟨k + 1, by omega, by go_num, A5, G5⟩
      case measure => simp [intOf]; omega
    · obtain rfl : k = T.ses.length := by omega
      rw [List.take_length] at A
      have hls := HLN.out
      have hl0 := HL0.out
      have HLX := Lib.hid (show (X0 ++ textS T.ses).length ≤ 72 + 30000 by rw [List.length_append]; omega)
      generalize hX1 : X0 ++ textS T.ses = X1 at *
      have HX1 := Lib.hid hX1
      clear hX1
      have q : ∀ i, wr.cell? ⟨p, i, none⟩ = ([.int .i64 T.now, .int .i64 T.ls, .int .i64 T.lf, .slice SA T.ses.length sc, .slice LA T.lea.length lc] : List Value)[i]? := fun i => (GG.out.cell (p := ⟨p, i, none⟩) hpB).trans (HQ.out i)
      have hpwr : p < wr.heap.size := by omega
      clear hlt hls hl0
      go_wp2_with fail
      clear q
      go_loopw [46] (fun i wq => ∃ k : Nat, k ≤ T.lea.length ∧ i = .int .i64 k ∧ Hid (BldA B B (X1 ++ textL (T.lea.take k)) wq) ∧ Hid (Below B w wq)) (fun i _ => T.lea.length - (intOf i).toNat)
      case atStart => exact ⟨0, by omega, rfl, Lib.hid (by simpa [textL] using A.out), GG⟩
      case round =>
        obtain ⟨k, hk, rfl, A, GG⟩ := hrel
        have hBr : B < wr.heap.size := A.out.lt
        by_cases hlt : k < T.lea.length
        · have hlt2 : (k : Int) < (T.lea.length : Int) := by omega
          have hln := textL_len (L := T.lea.take k) (fun n hn => HF6.out n (List.mem_of_mem_take hn))
          have hlt' := List.length_take_le k T.lea
          have hl0 := HLX.out
          obtain ⟨x, hx⟩ : ∃ x, T.lea[k]? = some x := ⟨_, List.getElem?_eq_getElem hlt⟩
          have HX := Lib.hid hx
          have hra := HLR.out.below (HB.out ▸ GG.out) (Nat.le_refl _)
          obtain ⟨g, o, rfl⟩ := LeasAt.some hra hx
          obtain ⟨c0, c1, c2, c3⟩ := LeasAt.get hra hx
          have HI := Lib.hid (HF6.out x (List.mem_of_getElem? hx))
          have hr100 := HI.out.1
          have y := fun w' => show (Op.stringOp .add ⟨#[76, 69, 65, 83, 69, 32]⟩ (sB x.reel)).run Tryz.prog w' = .ok (.string (sB (leaseW ++ x.reel))) w' from add_sB (a := leaseW) (by simp [leaseW]; omega) w'
          clear hx hra
          go_wp2_with fail
          generalize hw6 : World.alloc wr _ = w6
          have A6 := Lib.hid (show BldI B B (X1 ++ textL (T.lea.take k)) w6 by subst hw6; exact BldI.ext (.inr A.out) (below_one wr _))
          have G6 := Lib.hid (show Below B w w6 by subst hw6; exact GG.out.alloc (Nat.le_of_lt hBr) _)
          have hB6 : B < w6.heap.size := A6.out.lt
          have hs6 : wr.heap.size + 1 = w6.heap.size := by subst hw6; simp
          clear hw6
          refine (line_any B B (wr.heap.size + 1) 3 (X1 ++ textL (T.lea.take k)) (leaseW ++ x.reel) [x.ses, x.fen, x.unt] _ (BldI.ext A6.out (below_one w6 _)) (heap_at w6 _ hs6) (by simp [leaseW]) (by simp; omega) (HTB.out.on (G6.out.alloc (Nat.le_of_lt hB6) _)) (by simpa using HI.out.2) (by simp [leaseW]; omega)).mono ?_
          rintro e w5 ⟨rfl, h5, hb5⟩
          rw [List.append_assoc, ← textL_snoc HX.out] at h5
          have A5 := Lib.hid h5
          have G5 := Lib.hid ((G6.out.alloc (Nat.le_of_lt hB6) _).trans hb5)
          clear h5 hb5 hln hlt' hl0 y hs6
          go_wp2_with fail
          go_roundw
          case rel => exact ⟨k + 1, by omega, by go_num, A5, G5⟩
          case measure => simp [intOf]; omega
        · obtain rfl : k = T.lea.length := by omega
          rw [List.take_length] at A
          clear hlt
          go_wp2_with fail
          refine (Tryz.Builder_String_any B B (X1 ++ textL T.lea) wr (.inr A.out) (Nat.le_of_lt hBr)).mono ?_
          rintro e w9 ⟨rfl, hb9⟩
          have G9 := Lib.hid (GG.out.trans hb9)
          clear hb9
          go_wp2_with fail
          go_ret
          exact ⟨by rw [HX0.out, HX1.out]; rfl, G9.out⟩
end Go.Proofs.YtneiljaknmeagaaGreatDoor
