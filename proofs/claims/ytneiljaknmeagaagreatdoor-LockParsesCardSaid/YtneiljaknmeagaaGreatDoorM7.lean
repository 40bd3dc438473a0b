/-
  The contracts of Decimal and of the literal that writes a line. Their conditions are their hypotheses.
-/
import Derived.Test.YtneiljaknmeagaaGreatDoorB1
import Derived.Lib.ItoaLen
import Derived.Lib.AppendIntMem
namespace Go.Proofs.YtneiljaknmeagaaGreatDoor
open Go.RowKit Go.Joins
set_option linter.unusedVariables false
set_option linter.unusedSimpArgs false
abbrev Tab (w : World) : Prop := Lib.TabIs Tryz.prog w "internal/strconv.uint64pow10" .u64 Lib.pow10Tab
theorem Tab.on {w w' : World} (h : Tab w) (hb : Below w.heap.size w w') : Tab w' := ((Lib.tabBelow_of_tabIs h).on hb).here
abbrev I64 (n : Int) : Prop := -9223372036854775808 ≤ n ∧ n ≤ 9223372036854775807
theorem dec_any (n : Int) (w : World) (hn : I64 n) (ht : Tab w) :
    Calls Tryz.prog 32 #[.int .i64 n] w fun e w' => e = .returned (.string (sB (Lib.itoa n))) ∧ Below w.heap.size w w' := by
  have HT := Lib.hid ht
  obtain ⟨h0, h1⟩ := hn
  clear ht
  go_enter Tryz.func32, Tryz.ntmps32
  go_wp2_with fail
  refine (Tryz.strconv_FormatInt_10 n h0 h1 w HT.out).mono ?_
  rintro e w' ⟨rfl, kk, os, hw'⟩
  have G := Lib.hid (show Below w.heap.size w w' by rw [hw']; exact Lib.below_grow _ w (Nat.le_refl _) kk os)
  clear hw'
  go_wp2_with fail
  go_ret
  exact ⟨rfl, G.out⟩
theorem BldI.ext {B b : Nat} {l : List UInt8} {w w' : World} (h : BldI B b l w) (hb : Below w.heap.size w w') : BldI B b l w' := by
  rcases h with h | h
  · obtain ⟨h1, v, h2, h3, h4⟩ := h
    exact .inl ⟨h1, v, (hb.block b (Array.getElem?_eq_some_iff.1 h2).1).trans h2, ownsRow_below h3 hb (Nat.le_refl _), h4⟩
  · obtain ⟨h1, v, h2, h3, h4⟩ := h
    exact .inr ⟨h1, v, (hb.block b (Array.getElem?_eq_some_iff.1 h2).1).trans h2, ownsRow_below h3 hb (Nat.le_refl _), h4⟩
theorem BldI.lt {B b : Nat} {l : List UInt8} {w : World} (h : BldI B b l w) : b < w.heap.size := by rcases h with h | h <;> exact h.lt
theorem BldI.ge {B b : Nat} {l : List UInt8} {w : World} (h : BldI B b l w) : B ≤ b := by rcases h with h | h <;> exact h.1
/-- The numbers of a line, and a line. -/
def numsT (ns : List Int) : List UInt8 := ns.flatMap fun n => 32 :: Lib.itoa n
def lineT (word : List UInt8) (ns : List Int) : List UInt8 := word ++ numsT ns ++ [10]
theorem numsT_len : ∀ {ns : List Int}, (∀ n ∈ ns, I64 n) → (numsT ns).length ≤ 22 * ns.length
  | [], _ => by simp [numsT]
  | n :: r, h => by
    have h1 := h n (by simp)
    have h2 := Lib.itoa_length_le n (by have := h1.1; omega) (by have := h1.2; omega)
    have h3 := numsT_len (ns := r) (fun m hm => h m (by simp [hm]))
    unfold numsT at *
    simp only [List.flatMap_cons, List.length_append, List.length_cons]
    omega
theorem numsT_snoc {ns : List Int} {k : Nat} {n : Int} (h : ns[k]? = some n) : numsT (ns.take (k + 1)) = numsT (ns.take k) ++ 32 :: Lib.itoa n := by
  rw [List.take_add_one, h]
  simp [numsT]
set_option maxHeartbeats 1000000 in
theorem line_any (B b g c : Nat) (l word : List UInt8) (ns : List Int) (w : World) (h : BldI B b l w) (hg : w.heap[g]? = some (.cells (ns.map (Value.int .i64)).toArray 2 (0, 0))) (hw0 : 0 < word.length)
    (hB : B ≤ w.heap.size) (ht : Lib.TabBelow Tryz.prog B w "internal/strconv.uint64pow10" .u64 Lib.pow10Tab) (hns : ∀ n ∈ ns, I64 n) (hl : l.length + word.length + 22 * ns.length ≤ 1000000) :
    Calls Tryz.prog 30 #[.string (sB word), .slice (some ⟨g, 0, none⟩) ns.length c, .pointer (some ⟨b, 0, none⟩)] w fun e w' => e = .returned (.tuple #[]) ∧ BldA B b (l ++ lineT word ns) w' ∧ Below B w w' := by
  have H := Lib.hid h
  have HT := Lib.hid ht
  have HNS := Lib.hid hns
  have HG := Lib.hid hg
  have HBW := Lib.hid hB
  have hbB := h.ge
  unfold lineT
  clear h ht hns hg hB
  go_enter Tryz.func30, Tryz.ntmps30
  go_wp2_with fail
  refine (wstr_any B b l (sB word) w H.out (by omega) (by rw [sB_size]; omega) (by rw [sB_size]; exact hw0) HBW.out).mono ?_
  rintro e w1 ⟨rfl, h1, hb1, hk1⟩
  rw [sB_list] at h1
  have A1 := Lib.hid h1
  have G1 := Lib.hid hb1
  have K1 := Lib.hid hk1
  clear h1 hb1 hk1
  go_wp2_with fail
  go_loopw [11] (fun i wr => ∃ k : Nat, k ≤ ns.length ∧ i = .int .i64 k ∧ Hid (BldA B b (l ++ word ++ numsT (ns.take k)) wr) ∧ Hid (Below B w wr) ∧ Hid (KeepO w wr)) (fun i _ => ns.length - (intOf i).toNat)
  case atStart => exact ⟨0, by omega, rfl, Lib.hid (by simpa [numsT] using A1.out), G1, K1⟩
  case round =>
    obtain ⟨k, hk, rfl, A, G, K⟩ := hrel
    have hlen := numsT_len (ns := ns.take k) (fun n hn => HNS.out n (List.mem_of_mem_take hn))
    have hlt' := List.length_take_le k ns
    have hBr := G.out.size
    by_cases hlt : k < ns.length
    · have hlt2 : (k : Int) < (ns.length : Int) := by omega
      obtain ⟨n, hn⟩ : ∃ n, ns[k]? = some n := ⟨_, List.getElem?_eq_getElem hlt⟩
      have HN := Lib.hid hn
      have hgr := K.out g _ _ (by decide) (by decide) HG.out
      have hc : wr.cell? ⟨g, k, none⟩ = some (.int .i64 n) := by rw [cell_of_block hgr k]; simp [hn]
      have hgw : g < wr.heap.size := (Array.getElem?_eq_some_iff.1 hgr).1
      have HI := Lib.hid (HNS.out n (List.mem_of_getElem? hn))
      clear hn hgr
      go_wp2_with fail
      refine (dec_any n wr HI.out ((HT.out.on G.out).here)).mono ?_
      rintro e w2 ⟨rfl, hb2⟩
      have hil := Lib.itoa_length_le n (by have := HI.out.1; omega) (by have := HI.out.2; omega)
      have A2 := Lib.hid (BldI.ext (.inr A.out) hb2)
      have G2 := Lib.hid (G.out.trans (hb2.mono (by have := HBW.out; omega)))
      have K2 := Lib.hid (K.out.trans (KeepO.ext hb2))
      have hB2 : B ≤ w2.heap.size := by have := HBW.out; have := hb2.size; omega
      have y := fun w' => show (Op.stringOp .add ⟨#[32]⟩ (sB (Lib.itoa n))).run Tryz.prog w' = .ok (.string (sB (32 :: Lib.itoa n))) w' from add_sB (a := [32]) (by simp; omega) w'
      clear hb2 hc
      go_wp2_with fail
      refine (wstr_any B b (l ++ word ++ numsT (ns.take k)) (sB (32 :: Lib.itoa n)) w2 A2.out (by simp; omega) (by rw [sB_size]; simp; omega) (by rw [sB_size]; simp) hB2).mono ?_
      rintro e w3 ⟨rfl, h3, hb3, hk3⟩
      rw [sB_list, List.append_assoc, ← numsT_snoc HN.out] at h3
      have A3 := Lib.hid h3
      have G3 := Lib.hid (G2.out.trans hb3)
      have K3 := Lib.hid (K2.out.trans hk3)
      clear h3 hb3 hk3 y
      go_wp2_with fail
      go_roundw
      case rel => exact ⟨k + 1, by omega, by go_num, A3, G3, K3⟩
      case measure => simp [intOf]; omega
    · obtain rfl : k = ns.length := by omega
      rw [List.take_length] at A hlen
      have hB2 : B ≤ wr.heap.size := by have := HBW.out; omega
      clear hlt
      go_wp2_with fail
      refine (wbyte_any B b (l ++ word ++ numsT ns) 10 wr (.inr A.out) (by simp; omega) hB2).mono ?_
      rintro e w3 ⟨rfl, h3, hb3, hk3⟩
      have A3 := Lib.hid h3
      have G3 := Lib.hid (G.out.trans hb3)
      clear h3 hb3 hk3
      go_wp2_with fail
      go_end0
      exact ⟨rfl, by rw [← List.append_assoc, ← List.append_assoc]; exact A3.out, G3.out⟩
end Go.Proofs.YtneiljaknmeagaaGreatDoor
