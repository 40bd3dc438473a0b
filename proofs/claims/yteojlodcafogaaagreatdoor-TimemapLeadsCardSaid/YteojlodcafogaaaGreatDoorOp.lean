/-
  Opening the arguments of these laws, and what the rows list. Without conditions.
-/
import Derived.Test.YteojlodcafogaaaGreatDoorBj
import Derived.Test.YteojlodcafogaaaGreatDoorCards
import Derived.Test.YteojlodcafogaaaGreatDoorTie
import Derived.ProofKit
import Derived.OpenShut
import Derived.ShutString
import Derived.Deep.DeepHandedRow
import Derived.Lib.LaidTab
import Derived.Lib.SmallJoins
import Derived.LaidMore
import Derived.Stop.LaidErr
import Derived.ChangeSlices
namespace Go.Proofs.YteojlodcafogaaaGreatDoor
open Go.ChangeShapes Go.WideShapes Go.ChangeAt Go.RowKit Go.Joins
set_option linter.unusedVariables false
theorem own : ownKnob Tryz.prog.godebug = none := by kernel_rfl
theorem laidOut : laidOutB Tryz.prog = true := by kernel_rfl
theorem laidMet_tail {P : Program} {x : String × DataW Unit} {l : List (String × DataW Unit)} {w : World} (h : laidMet P (x :: l) w) : laidMet P l w := by
  obtain ⟨n, d⟩ := x
  obtain ⟨ps, ⟨g, t, cs, fuel, p, q, hg, ht, hv, hd, hl, rfl⟩, hnd, hc⟩ := h
  exact ⟨q, hl, (List.nodup_append.1 hnd).2.1, fun b off hb => hc b off (List.mem_append_right _ hb)⟩
theorem gTab : Tryz.prog.globalNamed "internal/strconv.uint64pow10" = some 0 := by kernel_rfl
theorem gTabType : (Tryz.prog.globals[0]?).map (·.type) = some 147 := by kernel_rfl
theorem cellsA : Tryz.prog.cellsOf 147 = 20 := by kernel_rfl
theorem cellsU : Tryz.prog.cellsOf 113 = 1 := by kernel_rfl
section
variable {H : Type} {enc : TypeId × Value → H} {w : World} {base : Nat} {spare : Nat → Bool} {held : Bool}
abbrev I64 (n : Int) : Prop := -9223372036854775808 ≤ n ∧ n ≤ 9223372036854775807
theorem i64_of {n : Int} (wx : (Lit.int .i64 n).wf = true) : I64 n := by
  simp [Lit.wf] at wx
  have e : IntKind.i64.min = -9223372036854775808 := rfl
  rw [e] at wx
  exact wx
set_option maxRecDepth 100000 in
theorem open_num {r : Reach} {b0 : Nat} {v : Value} {d : DataW H} {p : List MemPlace} (hv : Value.okWide Tryz.prog w r b0 2 v) (h : DataW.Trod enc Tryz.prog w base spare held 2 v d p) :
    ∃ n : Int, v = .int .i64 n ∧ I64 n := by
  obtain ⟨n, rfl, _, _, wx⟩ := open_int Tryz.underlying2 hv h
  exact ⟨n, rfl, i64_of wx⟩
theorem len_of {s : ByteArray} (h : s.size ≤ maxLen) : s.size ≤ 9223372036854775807 := by simpa [maxLen] using h
theorem cellsSp : Tryz.prog.cellsOf 42 = 2 := by kernel_rfl
theorem add_plain (b o i j : Nat) : ((⟨b, o, none⟩ : Addr).add i).add j = ⟨b, o + i + j, none⟩ := by
  cases i <;> cases j <;> simp [Addr.add]
set_option maxRecDepth 100000 in
theorem sp_of {fuel : Nat} {cs : List Value} {x : DataW H × List MemPlace} (hsz : cs.length = 2) (hf : DataW.trod enc Tryz.prog w base spare held fuel 42 cs = some x) :
    ∃ s : Spn, cs = spV s ∧ I64 s.i ∧ I64 s.o := by
  obtain ⟨xs, n, _, _, _, hlen, hg⟩ := DataW.trod_struct Tryz.underlying42 hf
  match cs, hsz with
  | [a0, a1], _ =>
    match xs, hlen with
    | [x0, x1], _ =>
      have c2 : Tryz.prog.cellsOf 2 = 1 := by kernel_rfl
      obtain ⟨i, e0, _, w0⟩ := DataW.trod_int Tryz.underlying2 (hg 0 _ rfl)
      obtain ⟨o, e1, _, w1⟩ := DataW.trod_int Tryz.underlying2 (hg 1 _ rfl)
      simp [c2] at e0 e1
      subst e0 e1
      exact ⟨⟨i, o⟩, rfl, i64_of w0, i64_of w1⟩
set_option maxRecDepth 100000 in
theorem open_span {r0 : Reach} {b0 : Nat} {v : Value} {d : DataW H} {p : List MemPlace} (hv : Value.okWide Tryz.prog w r0 b0 42 v) (h : DataW.Trod enc Tryz.prog w base spare held 42 v d p) :
    ∃ s : Spn, v = spA s ∧ I64 s.i ∧ I64 s.o := by
  obtain ⟨cs, rfl, hsz⟩ := okWide_struct Tryz.underlying42 hv
  obtain ⟨lst⟩ := cs
  have hsz : lst.length = 2 := hsz.trans (by kernel_rfl)
  obtain ⟨fuel, hf⟩ := h
  obtain ⟨s, e, hs⟩ := sp_of hsz (by simpa [Value.cells] using hf)
  subst e
  exact ⟨s, rfl, hs⟩
theorem cellsPc : Tryz.prog.cellsOf 57 = 5 := by kernel_rfl
set_option maxRecDepth 100000 in
theorem pc_of {fuel : Nat} {cs : List Value} {x : DataW H × List MemPlace} (hsz : cs.length = 5) (hf : DataW.trod enc Tryz.prog w base spare held fuel 57 cs = some x) :
    ∃ s : Pc, cs = pcV s ∧ I64 s.i ∧ I64 s.o ∧ I64 s.t ∧ I64 s.n ∧ I64 s.d := by
  obtain ⟨xs, n, _, _, _, hlen, hg⟩ := DataW.trod_struct Tryz.underlying57 hf
  match cs, hsz with
  | [a0, a1, a2, a3, a4], _ =>
    match xs, hlen with
    | [x0, x1, x2, x3], _ =>
      have c2 : Tryz.prog.cellsOf 2 = 1 := by kernel_rfl
      have c5 : Tryz.prog.cellsOf 55 = 2 := by kernel_rfl
      obtain ⟨i, e0, _, w0⟩ := DataW.trod_int Tryz.underlying2 (hg 0 _ rfl)
      obtain ⟨o, e1, _, w1⟩ := DataW.trod_int Tryz.underlying2 (hg 1 _ rfl)
      obtain ⟨t, e2, _, w2⟩ := DataW.trod_int Tryz.underlying2 (hg 2 _ rfl)
      have h3 := hg 3 _ rfl
      simp [c2] at e0 e1 e2
      obtain ⟨ys, m, _, _, _, hlen2, hg2⟩ := DataW.trod_struct Tryz.underlying55 h3
      match ys, hlen2 with
      | [y0, y1], _ =>
        obtain ⟨n1, f0, _, v0⟩ := DataW.trod_int Tryz.underlying2 (hg2 0 _ rfl)
        obtain ⟨d1, f1, _, v1⟩ := DataW.trod_int Tryz.underlying2 (hg2 1 _ rfl)
        simp [c2, c5] at f0 f1
        subst e0 e1 e2 f0 f1
        exact ⟨⟨i, o, t, n1, d1⟩, rfl, i64_of w0, i64_of w1, i64_of w2, i64_of v0, i64_of v1⟩
/-- What a list of pieces that came in is. -/
structure PcsAt (w : World) (A : Option Addr) (c : Nat) (L : List Pc) : Prop where
  frm : (A = none ∧ c = 0) ∨ ∃ g, A = some g
  row : PcAt w A L
  len : L.length ≤ 9223372036854775807
  cap : L.length ≤ c
  bd : ∀ s ∈ L, (I64 s.i ∧ I64 s.o ∧ I64 s.t ∧ I64 s.n ∧ I64 s.d)
set_option maxRecDepth 100000 in
theorem open_pieces {r0 : Reach} {b0 : Nat} {v : Value} {d : DataW H} {p : List MemPlace} (hv : Value.okWide Tryz.prog w r0 b0 22 v) (h : DataW.Trod enc Tryz.prog w base spare held 22 v d p) :
    ∃ A c L, v = .slice A L.length c ∧ PcsAt w A c L := by
  obtain ⟨a0, len, cap, rfl⟩ := okWide_slice Tryz.underlying22 hv
  obtain ⟨fuel, hf⟩ := h
  rcases DataW.trod_slice Tryz.underlying22 hf with ⟨hcs, hx⟩ | ⟨a, len', cap', elems, rest, m, _, hcs, _, hb, hl, hm, hn, hcell, _, _⟩
  · simp [Value.cells] at hcs
    obtain ⟨rfl, rfl, rfl⟩ := hcs
    exact ⟨none, 0, [], rfl, .inl ⟨rfl, rfl⟩, RowAt.nil _ _, by simp, by simp, fun s hs => by cases hs⟩
  · simp [Value.cells] at hcs
    obtain ⟨rfl, rfl, rfl⟩ := hcs
    have hone : ∀ i, ∃ s : Pc, i < len → ∃ b off, a = ⟨b, off, none⟩ ∧ (∀ j u, (pcV s)[j]? = some u → w.cell? ⟨b, off + i * 5 + j, none⟩ = some u) ∧ (I64 s.i ∧ I64 s.o ∧ I64 s.t ∧ I64 s.n ∧ I64 s.d) := by
      intro i
      by_cases hi : i < len
      · have hc := hcell i hi
        rw [List.getElem?_eq_getElem (by omega), cellsPc] at hc
        obtain ⟨cs, hcs, ht⟩ := Option.bind_eq_some_iff.1 hc
        obtain ⟨_, hlen, hcc⟩ := World.cells?_some hcs
        obtain ⟨s, e, hs⟩ := pc_of hlen ht
        refine ⟨s, fun _ => ?_⟩
        obtain ⟨b, off, spot⟩ := a
        have hspot : spot = none := by
          cases spot with
          | none => rfl
          | some sp =>
            exfalso
            have hc0 := hcell 0 (by omega)
            rw [List.getElem?_eq_getElem (by omega), cellsPc] at hc0
            obtain ⟨cs0, hcs0, ht0⟩ := Option.bind_eq_some_iff.1 hc0
            obtain ⟨_, hlen0, hcc0⟩ := World.cells?_some hcs0
            have h0 := hcc0 0 (by omega)
            rw [show ((⟨b, off, some sp⟩ : Addr).add (0 * 5)).add 0 = ⟨b, off, some sp⟩ by simp [Addr.add], List.getElem?_eq_getElem (by omega)] at h0
            unfold World.cell? at h0
            split at h0 <;> simp at h0
        subst hspot
        refine ⟨b, off, rfl, ?_, hs⟩
        intro j u hj
        have hj2 : j < 5 := (List.getElem?_eq_some_iff.1 hj).1
        have := hcc j hj2
        rw [add_plain, e] at this
        exact this.trans hj
      · exact ⟨⟨0, 0, 0, 0, 0⟩, fun h => absurd h hi⟩
    obtain ⟨f, hf⟩ := Classical.axiomOfChoice hone
    have hll : ((List.range len).map f).length = len := by simp
    refine ⟨some a, cap, (List.range len).map f, by rw [hll], .inr ⟨_, rfl⟩, ?_, ?_, by rw [hll]; omega, ?_⟩
    · intro k u hk
      have hkl : k < len * 5 := by
        have := (List.getElem?_eq_some_iff.1 hk).1
        rwa [flat_len pcV_len, hll] at this
      have hi : k / 5 < len := by omega
      obtain ⟨b, off, rfl, hc, _⟩ := hf (k / 5) hi
      have h2 := flat_get pcV_len (l := (List.range len).map f) (k := k / 5) (x := f (k / 5)) (by simp [hi]) (j := k % 5) (by omega)
      rw [show k / 5 * 5 + k % 5 = k by omega] at h2
      rw [h2] at hk
      have := hc (k % 5) u hk
      rw [show off + k / 5 * 5 + k % 5 = off + k by omega] at this
      exact ⟨b, off, rfl, this⟩
    · rw [hll]
      have : maxLen = 9223372036854775807 := rfl
      omega
    · intro s hs
      obtain ⟨i, hi, rfl⟩ := List.mem_map.1 hs
      obtain ⟨b, off, _, _, h1⟩ := hf i (List.mem_range.1 hi)
      exact h1
end
theorem PcsAt.frp {w : World} {A : Option Addr} {c : Nat} {L : List Pc} (h : PcsAt w A c L) : Frp L := fun x hx => ⟨(h.bd x hx).2.2.2.1, (h.bd x hx).2.2.2.2⟩
theorem star : "*" ++ "errors.errorString" = "*errors.errorString" := by decide
theorem rowE (u : TypeId) (h : Tryz.prog.typeName? 3 u = some "*errors.errorString") : u = 191 :=
  typeName_ptr_named (nm := "errors.errorString") (by rw [star]; kernel_rfl) (by kernel_rfl) (by decide) u (by rw [star]; exact h)
abbrev laidSeven : List (String × DataW Unit) := Rows.timemapChecksRow.laid
theorem ev_of {g : Nat} {nm : String} {tp : TypeId} {p : Value} {W : World} (hg : Tryz.prog.globalNamed nm = some g) (h : W.var? Tryz.prog nm = some #[.iface tp p]) : Ev g W := by
  have h0 := World.var?_cell hg h 0
  exact ⟨.iface tp p, by simpa using h0, .inr ⟨tp, p, rfl⟩⟩
theorem wd_of {W : World} (h : laidMetH Tryz.prog laidSeven W) (hsh : W.ShapedOpen Tryz.prog) : Wd W := by
  have h3 := laidMet_tail (laidMet_tail h)
  have h4 := laidMet_tail (laidMet_tail h3)
  have h5 := laidMet_tail h4
  refine ⟨Lib.tabIs_of_head gTab gTabType Tryz.underlying147 Tryz.underlying113 cellsU cellsA h3, ?_, ?_, ?_⟩
  · exact Tryz.laysM146.s1_3 W hsh
  · obtain ⟨a, s, hv, _, _, _⟩ := laid_sentinel (tp := 191) (te := 193) (ts := 9) (g := 2) (ti := 84) h5 (by kernel_rfl) (by kernel_rfl) Tryz.underlying84 rowE Tryz.underlying191 Tryz.underlying193 rfl rfl Tryz.underlying9 (by kernel_rfl) (by kernel_rfl)
    exact ev_of (by kernel_rfl) hv
  · obtain ⟨a, s, hv, _, _, _⟩ := laid_sentinel (tp := 191) (te := 193) (ts := 9) (g := 3) (ti := 84) h4 (by kernel_rfl) (by kernel_rfl) Tryz.underlying84 rowE Tryz.underlying191 Tryz.underlying193 rfl rfl Tryz.underlying9 (by kernel_rfl) (by kernel_rfl)
    exact ev_of (by kernel_rfl) hv
def putCells (cs : Array Value) : Obj → Obj
  | .cells _ t fr => .cells cs t fr
  | o => o
def flatD : Nat → DataW Unit → List Value
  | _, .lit (.int k n) => [.int k n]
  | f + 1, .agg l => l.flatMap (flatD f)
  | _, _ => []
noncomputable def laidW (os : Os) : World :=
  { World.doorLaid Tryz.prog 100 os with heap := ((World.doorLaid Tryz.prog 100 os).heap.modify 6 (putCells (flatD 3 Rows.laid_unicode_utf8_first).toArray)).modify 7 (putCells (flatD 3 Rows.laid_unicode_utf8_acceptRanges).toArray) }
theorem met7 (os : Os) (args : Array Value) : laidMet Tryz.prog laidSeven ((laidW os).forCall (fun _ _ => 0) ⟨#[], args, []⟩).memory :=
  laidMet_of_run' 600 (by kernel_rfl) (by kernel_rfl)
end Go.Proofs.YteojlodcafogaaaGreatDoor
