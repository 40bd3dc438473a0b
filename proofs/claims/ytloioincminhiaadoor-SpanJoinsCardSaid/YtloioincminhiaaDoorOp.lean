/-
  Opening the arguments of these laws, and what the rows list. Without conditions.
-/
import Derived.Test.YtloioincminhiaaDoorU3
import Derived.Test.YtloioincminhiaaDoorC3
import Derived.Test.YtloioincminhiaaDoorCards
import Derived.Test.YtloioincminhiaaDoorTie
import Derived.ProofKit
import Derived.OpenShut
import Derived.ShutString
import Derived.Deep.DeepHandedRow
import Derived.Lib.LaidTab
import Derived.Lib.SmallJoins
import Derived.LaidMore
import Derived.ChangeSlices
namespace Go.Proofs.YtloioincminhiaaDoor
open Go.ChangeShapes Go.WideShapes Go.ChangeAt Go.RowKit Go.Joins
set_option linter.unusedVariables false
theorem own : ownKnob Tryd.prog.godebug = none := by kernel_rfl
theorem laidOut : laidOutB Tryd.prog = true := by kernel_rfl
theorem laidMet_tail {P : Program} {x : String × DataW Unit} {l : List (String × DataW Unit)} {w : World} (h : laidMet P (x :: l) w) : laidMet P l w := by
  obtain ⟨n, d⟩ := x
  obtain ⟨ps, ⟨g, t, cs, fuel, p, q, hg, ht, hv, hd, hl, rfl⟩, hnd, hc⟩ := h
  exact ⟨q, hl, (List.nodup_append.1 hnd).2.1, fun b off hb => hc b off (List.mem_append_right _ hb)⟩
theorem gTab : Tryd.prog.globalNamed "internal/strconv.uint64pow10" = some 0 := by kernel_rfl
theorem gTabType : (Tryd.prog.globals[0]?).map (·.type) = some 111 := by kernel_rfl
theorem cellsA : Tryd.prog.cellsOf 111 = 20 := by kernel_rfl
abbrev laidAll : List (String × DataW Unit) := Rows.spanChecksRow.laid
theorem cellsU : Tryd.prog.cellsOf 91 = 1 := by kernel_rfl
theorem tab_of {W : World} (h : laidMetH Tryd.prog laidAll W) : Tab W :=
  Lib.tabIs_of_head (rest := []) gTab gTabType Tryd.underlying111 Tryd.underlying91 cellsU cellsA (laidMet_tail (laidMet_tail h))
theorem met (os : Os) (args : Array Value) : laidMet Tryd.prog laidAll ((World.doorLaid Tryd.prog 100 os).forCall (fun _ _ => 0) ⟨#[], args, []⟩).memory :=
  laidMet_of_run' 32 (by kernel_rfl) (by kernel_rfl)
section
variable {H : Type} {enc : TypeId × Value → H} {w : World} {base : Nat} {spare : Nat → Bool} {held : Bool}
abbrev I64 (n : Int) : Prop := -9223372036854775808 ≤ n ∧ n ≤ 9223372036854775807
theorem i64_of {n : Int} (wx : (Lit.int .i64 n).wf = true) : I64 n := by
  simp [Lit.wf] at wx
  have e : IntKind.i64.min = -9223372036854775808 := rfl
  rw [e] at wx
  exact wx
set_option maxRecDepth 100000 in
theorem open_num {r : Reach} {b0 : Nat} {v : Value} {d : DataW H} {p : List MemPlace} (hv : Value.okWide Tryd.prog w r b0 2 v) (h : DataW.Trod enc Tryd.prog w base spare held 2 v d p) :
    ∃ n : Int, v = .int .i64 n ∧ I64 n := by
  obtain ⟨n, rfl, _, _, wx⟩ := open_int Tryd.underlying2 hv h
  exact ⟨n, rfl, i64_of wx⟩
theorem len_of {s : ByteArray} (h : s.size ≤ maxLen) : s.size ≤ 9223372036854775807 := by simpa [maxLen] using h
theorem cellsSp : Tryd.prog.cellsOf 32 = 2 := by kernel_rfl
theorem add_plain (b o i j : Nat) : ((⟨b, o, none⟩ : Addr).add i).add j = ⟨b, o + i + j, none⟩ := by
  cases i <;> cases j <;> simp [Addr.add]
set_option maxRecDepth 100000 in
theorem sp_of {fuel : Nat} {cs : List Value} {x : DataW H × List MemPlace} (hsz : cs.length = 2) (hf : DataW.trod enc Tryd.prog w base spare held fuel 32 cs = some x) :
    ∃ s : Spn, cs = spV s ∧ I64 s.i ∧ I64 s.o := by
  obtain ⟨xs, n, _, _, _, hlen, hg⟩ := DataW.trod_struct Tryd.underlying32 hf
  match cs, hsz with
  | [a0, a1], _ =>
    match xs, hlen with
    | [x0, x1], _ =>
      have c2 : Tryd.prog.cellsOf 2 = 1 := by kernel_rfl
      obtain ⟨i, e0, _, w0⟩ := DataW.trod_int Tryd.underlying2 (hg 0 _ rfl)
      obtain ⟨o, e1, _, w1⟩ := DataW.trod_int Tryd.underlying2 (hg 1 _ rfl)
      simp [c2] at e0 e1
      subst e0 e1
      exact ⟨⟨i, o⟩, rfl, i64_of w0, i64_of w1⟩
set_option maxRecDepth 100000 in
theorem open_span {r0 : Reach} {b0 : Nat} {v : Value} {d : DataW H} {p : List MemPlace} (hv : Value.okWide Tryd.prog w r0 b0 32 v) (h : DataW.Trod enc Tryd.prog w base spare held 32 v d p) :
    ∃ s : Spn, v = spA s ∧ I64 s.i ∧ I64 s.o := by
  obtain ⟨cs, rfl, hsz⟩ := okWide_struct Tryd.underlying32 hv
  obtain ⟨lst⟩ := cs
  have hsz : lst.length = 2 := hsz.trans (by kernel_rfl)
  obtain ⟨fuel, hf⟩ := h
  obtain ⟨s, e, hs⟩ := sp_of hsz (by simpa [Value.cells] using hf)
  subst e
  exact ⟨s, rfl, hs⟩
/-- What a list of spans that came in is. -/
structure SpsAt (w : World) (A : Option Addr) (c : Nat) (L : List Spn) : Prop where
  frm : Frm A c
  row : SpAt w A L
  len : L.length ≤ 9223372036854775807
  bd : ∀ s ∈ L, I64 s.i ∧ I64 s.o
set_option maxRecDepth 100000 in
theorem open_spans {r0 : Reach} {b0 : Nat} {v : Value} {d : DataW H} {p : List MemPlace} (hv : Value.okWide Tryd.prog w r0 b0 22 v) (h : DataW.Trod enc Tryd.prog w base spare held 22 v d p) :
    ∃ A c L, v = .slice A L.length c ∧ SpsAt w A c L := by
  obtain ⟨a0, len, cap, rfl⟩ := okWide_slice Tryd.underlying22 hv
  obtain ⟨fuel, hf⟩ := h
  rcases DataW.trod_slice Tryd.underlying22 hf with ⟨hcs, hx⟩ | ⟨a, len', cap', elems, rest, m, _, hcs, _, hb, hl, hm, hn, hcell, _, _⟩
  · simp [Value.cells] at hcs
    obtain ⟨rfl, rfl, rfl⟩ := hcs
    exact ⟨none, 0, [], rfl, .inl ⟨rfl, rfl⟩, RowAt.nil _ _, by simp, fun s hs => by cases hs⟩
  · simp [Value.cells] at hcs
    obtain ⟨rfl, rfl, rfl⟩ := hcs
    have hone : ∀ i, ∃ s : Spn, i < len → ∃ b off, a = ⟨b, off, none⟩ ∧ (∀ j u, (spV s)[j]? = some u → w.cell? ⟨b, off + i * 2 + j, none⟩ = some u) ∧ I64 s.i ∧ I64 s.o := by
      intro i
      by_cases hi : i < len
      · have hc := hcell i hi
        rw [List.getElem?_eq_getElem (by omega), cellsSp] at hc
        obtain ⟨cs, hcs, ht⟩ := Option.bind_eq_some_iff.1 hc
        obtain ⟨_, hlen, hcc⟩ := World.cells?_some hcs
        obtain ⟨s, e, hs⟩ := sp_of hlen ht
        refine ⟨s, fun _ => ?_⟩
        obtain ⟨b, off, spot⟩ := a
        have hspot : spot = none := by
          cases spot with
          | none => rfl
          | some sp =>
            exfalso
            have hc0 := hcell 0 (by omega)
            rw [List.getElem?_eq_getElem (by omega), cellsSp] at hc0
            obtain ⟨cs0, hcs0, ht0⟩ := Option.bind_eq_some_iff.1 hc0
            obtain ⟨_, hlen0, hcc0⟩ := World.cells?_some hcs0
            have h0 := hcc0 0 (by omega)
            rw [show ((⟨b, off, some sp⟩ : Addr).add (0 * 2)).add 0 = ⟨b, off, some sp⟩ by simp [Addr.add], List.getElem?_eq_getElem (by omega)] at h0
            unfold World.cell? at h0
            split at h0 <;> simp at h0
        subst hspot
        refine ⟨b, off, rfl, ?_, hs⟩
        intro j u hj
        have hj2 : j < 2 := (List.getElem?_eq_some_iff.1 hj).1
        have := hcc j hj2
        rw [add_plain, e] at this
        exact this.trans hj
      · exact ⟨⟨0, 0⟩, fun h => absurd h hi⟩
    obtain ⟨f, hf⟩ := Classical.axiomOfChoice hone
    have hll : ((List.range len).map f).length = len := by simp
    refine ⟨some a, cap, (List.range len).map f, by rw [hll], .inr ⟨_, rfl⟩, ?_, ?_, ?_⟩
    · intro k u hk
      have hkl : k < len * 2 := by
        have := (List.getElem?_eq_some_iff.1 hk).1
        rwa [flat_len spV_len, hll] at this
      have hi : k / 2 < len := by omega
      obtain ⟨b, off, rfl, hc, _⟩ := hf (k / 2) hi
      have h2 := flat_get spV_len (l := (List.range len).map f) (k := k / 2) (x := f (k / 2)) (by simp [hi]) (j := k % 2) (by omega)
      rw [show k / 2 * 2 + k % 2 = k by omega] at h2
      rw [h2] at hk
      have := hc (k % 2) u hk
      rw [show off + k / 2 * 2 + k % 2 = off + k by omega] at this
      exact ⟨b, off, rfl, this⟩
    · rw [hll]
      have : maxLen = 9223372036854775807 := rfl
      omega
    · intro s hs
      obtain ⟨i, hi, rfl⟩ := List.mem_map.1 hs
      obtain ⟨b, off, _, _, h1⟩ := hf i (List.mem_range.1 hi)
      exact h1
end
end Go.Proofs.YtloioincminhiaaDoor
