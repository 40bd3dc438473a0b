/-
  Opening the arguments. The conditions of the contracts are their hypotheses.
-/
import Derived.Test.YtmopjhbfobmklaaGreatDoorRows
import Derived.Test.YtmopjhbfobmklaaGreatDoorMCx
import Derived.ProofKit
import Derived.OpenShut
import Derived.ShutString
import Derived.ChangeSlices
import Derived.Test.YtmopjhbfobmklaaGreatDoorCards
import Derived.Test.YtmopjhbfobmklaaGreatDoorTie
import Derived.Deep.DeepHandedRow
import Derived.Lib.LaidTab
import Derived.Lib.LaidU8T
import Derived.Lib.SmallJoins
import Derived.LaidMore
set_option maxRecDepth 100000
set_option maxHeartbeats 40000000
namespace Go.Proofs.YtmopjhbfobmklaaGreatDoor
open Go.ChangeShapes Go.WideShapes Go.ChangeAt Go.RowKit Go.Joins
set_option linter.unusedVariables false
set_option linter.unusedSimpArgs false
theorem bulk_one {H : Type} (d : DataW H) : 1 ≤ Rows.uptoBulk d := by
 cases d with
 | lit l => cases l <;> simp [Rows.uptoBulk]
 | nil => simp [Rows.uptoBulk]
 | ptr d => simp [Rows.uptoBulk]
 | slice elems spare => simp [Rows.uptoBulk]
 | agg parts => simp [Rows.uptoBulk]
 | iface t d => simp [Rows.uptoBulk]
 | map entries => simp [Rows.uptoBulk]
 | held h => simp [Rows.uptoBulk]
theorem bulk_part {H : Type} {d : DataW H} {l : List (DataW H)} (h : d ∈ l) : Rows.uptoBulk d ≤ Rows.uptoBulkAll l := by
 induction l with
 | nil => cases h
 | cons x r ih =>
  simp only [Rows.uptoBulkAll]
  cases List.mem_cons.1 h with
  | inl e => subst e; omega
  | inr e => have := ih e; omega
theorem bulk_len {H : Type} (l : List (DataW H)) : l.length ≤ Rows.uptoBulkAll l := by
 induction l with
 | nil => simp [Rows.uptoBulkAll]
 | cons x r ih => have := bulk_one x; simp only [Rows.uptoBulkAll, List.length_cons]; omega
theorem bulk_str {H : Type} (bytes : List UInt8) : Rows.uptoBulk (DataW.lit (H := H) (.string bytes)) = bytes.length + 1 := by simp [Rows.uptoBulk]
theorem bulk_agg {H : Type} (l : List (DataW H)) : Rows.uptoBulk (DataW.agg l) = Rows.uptoBulkAll l + 1 := by simp [Rows.uptoBulk]
theorem bulk_cons {H : Type} (d : DataW H) (l : List (DataW H)) : Rows.uptoBulkAll (d :: l) = Rows.uptoBulk d + Rows.uptoBulkAll l := by simp [Rows.uptoBulkAll]
theorem bulk_slice {H : Type} (l r : List (DataW H)) : Rows.uptoBulk (DataW.slice l r) = Rows.uptoBulkAll l + Rows.uptoBulkAll r + 1 := by simp [Rows.uptoBulk]
theorem sB_of2 (s : ByteArray) : sB s.data.toList = s := by unfold sB; simp
theorem add_flat (b o i j : Nat) : ((⟨b, o, none⟩ : Addr).add i).add j = ⟨b, o + i + j, none⟩ := by
 cases i <;> cases j <;> simp [Addr.add]
theorem u8_of {n : Int} (wx : (Lit.int .u8 n).wf = true) : 0 ≤ n ∧ n ≤ 255 := by
 simp [Lit.wf] at wx
 have e : IntKind.u8.min = 0 := rfl
 have e2 : IntKind.u8.max = 255 := rfl
 rw [e] at wx
 omega
theorem i64_in {n : Int} (wx : (Lit.int .i64 n).wf = true) : -9223372036854775808 ≤ n ∧ n ≤ 9223372036854775807 := by
 simp [Lit.wf] at wx
 have e : IntKind.i64.min = -9223372036854775808 := rfl
 rw [e] at wx
 exact wx
abbrev Bk : Nat := 1048576
section
variable {H : Type} {enc : TypeId × Value → H} {w : World} {base : Nat} {spare : Nat → Bool} {held : Bool}
theorem open_seq {α : Type} [Inhabited α] {ty te : TypeId} {sz fuel : Nat} {cs : List Value} {x : DataW H × List MemPlace} (hu : Tryz.prog.underlying ty = some (.slice te)) (hce : Tryz.prog.cellsOf te = sz) (hsz : 0 < sz)
  (R : World → List Value → α → Prop) (Q : α → Prop)
  (hR : ∀ n cs y, cs.length = sz → DataW.trod enc Tryz.prog w base spare held n te cs = some y → Rows.uptoBulk y.1 ≤ Bk → ∃ a, R w cs a ∧ Q a)
  (hf : DataW.trod enc Tryz.prog w base spare held fuel ty cs = some x) (hb : Rows.uptoBulk x.1 ≤ Bk) :
  ∃ v xs, cs = [v] ∧ SeqAt w sz R v xs ∧ (∀ a ∈ xs, Q a) ∧ xs.length ≤ 2000000 := by
 rcases DataW.trod_slice hu hf with ⟨hcs, hx⟩ | ⟨a, len, cap, elems, rest, m, _, hcs, hx, hbl, hl, hm, hn, hcell, _, _⟩
 ·exact ⟨_, [], hcs, SeqAt.nil _ _ _, fun a ha => (by cases ha), by simp⟩
 have hbx : Rows.uptoBulkAll (elems.map (·.1)) + Rows.uptoBulkAll (rest.map (·.1)) + 1 ≤ Bk := by
  rw [hx] at hb
  simpa [bulk_slice] using hb
 have hlen : elems.length ≤ 1048576 := by
  have hbx : Rows.uptoBulkAll (elems.map (·.1)) + Rows.uptoBulkAll (rest.map (·.1)) + 1 ≤ 1048576 := hbx
  have := bulk_len (elems.map (·.1))
  rw [List.length_map] at this
  omega
 have hone : ∀ i, ∃ s : α, i < len → ∃ b off cs, a = ⟨b, off, none⟩ ∧ cs.length = sz ∧ (∀ j u, cs[j]? = some u → w.cell? ⟨b, off + i * sz + j, none⟩ = some u) ∧ R w cs s ∧ Q s := by
  intro i
  by_cases hi : i < len
  ·have hc := hcell i hi
   obtain ⟨y, hy⟩ : ∃ y, elems[i]? = some y := ⟨_, List.getElem?_eq_getElem (by omega)⟩
   rw [hy, hce] at hc
   obtain ⟨cs2, hcs2, ht⟩ := Option.bind_eq_some_iff.1 hc
   obtain ⟨_, hlen2, hcc⟩ := World.cells?_some hcs2
   have hby : Rows.uptoBulk y.1 ≤ Bk := by
    have := bulk_part (List.mem_map.2 ⟨y, List.mem_of_getElem? hy, rfl⟩ : y.1 ∈ elems.map (·.1))
    omega
   obtain ⟨s, hs, hq⟩ := hR _ cs2 y hlen2 ht hby
   refine ⟨s, fun _ => ?_⟩
   obtain ⟨b, off, spot⟩ := a
   have hspot : spot = none := by
    cases spot with
    | none => rfl
    | some sp =>
     exfalso
     have hc0 := hcell 0 (by omega)
     rw [List.getElem?_eq_getElem (by omega), hce] at hc0
     obtain ⟨cs0, hcs0, ht0⟩ := Option.bind_eq_some_iff.1 hc0
     obtain ⟨_, hlen0, hcc0⟩ := World.cells?_some hcs0
     have h0 := hcc0 0 (by omega)
     rw [show ((⟨b, off, some sp⟩ : Addr).add (0 * sz)).add 0 = ⟨b, off, some sp⟩ by simp [Addr.add], List.getElem?_eq_getElem (by omega)] at h0
     unfold World.cell? at h0
     split at h0 <;> simp at h0
   subst hspot
   refine ⟨b, off, cs2, rfl, hlen2, fun j u hj => ?_, hs, hq⟩
   have hj2 : j < sz := by
    have := (List.getElem?_eq_some_iff.1 hj).1
    omega
   have := hcc j hj2
   rw [add_flat] at this
   exact this.trans hj
  exact ⟨default, fun h => absurd h hi⟩
 obtain ⟨f, hf⟩ := Classical.axiomOfChoice hone
 have hll : ((List.range len).map f).length = len := by simp
 refine ⟨_, (List.range len).map f, hcs, ⟨some a, cap, by rw [hll], by rw [hll]; exact hl, hm, fun k s hk => ?_⟩, ?_, by rw [hll]; omega⟩
 ·have hkl : k < len := by
   have := (List.getElem?_eq_some_iff.1 hk).1
   rwa [hll] at this
  have hk2 : ((List.range len).map f)[k]? = some (f k) := by simp [hkl]
  rw [hk2] at hk
  cases hk
  obtain ⟨b, off, cs2, e1, e2, e3, e4, _⟩ := hf k hkl
  exact ⟨b, off, cs2, by rw [e1], e2, e3, e4⟩
 intro s hs
 obtain ⟨i, hi, rfl⟩ := List.mem_map.1 hs
 obtain ⟨_, _, _, _, _, _, _, h1⟩ := hf i (List.mem_range.1 hi)
 exact h1
theorem st_of {fuel : Nat} {cs : List Value} {x : DataW H × List MemPlace} (hsz : cs.length = 3) (hf : DataW.trod enc Tryz.prog w base spare held fuel 110 cs = some x) (hb : Rows.uptoBulk x.1 ≤ Bk) :
  ∃ co it un, cs = [.int .u8 co, .bool it, .bool un] := by
 obtain ⟨xs, n, _, hx, _, hlen, hg⟩ := DataW.trod_struct Tryz.underlying110 hf
 match cs, hsz with
 | [a0, a1, a2], _ =>
  match xs, hlen with
  | [x0, x1, x2], _ =>
   have hbx : Rows.uptoBulkAll [x0.1, x1.1, x2.1] + 1 ≤ Bk := by
    rw [hx] at hb
    simpa [bulk_agg] using hb
   simp only [bulk_cons] at hbx
   have c0 : Tryz.prog.cellsOf 108 = 1 := by kernel_rfl
   have c1 : Tryz.prog.cellsOf 4 = 1 := by kernel_rfl
   obtain ⟨co, e0, _, w0⟩ := DataW.trod_int Tryz.underlying108 (hg 0 _ rfl)
   obtain ⟨it, e1, _⟩ := DataW.trod_bool Tryz.underlying4 (hg 1 _ rfl)
   obtain ⟨un, e2, _⟩ := DataW.trod_bool Tryz.underlying4 (hg 2 _ rfl)
   simp [c0, c1] at e0 e1 e2
   obtain ⟨rfl, rfl, rfl⟩ := And.intro e0 (And.intro e1 e2)
   exact ⟨co, it, un, rfl⟩
theorem spn_of {fuel : Nat} {cs : List Value} {x : DataW H × List MemPlace} (hsz : cs.length = 2) (hf : DataW.trod enc Tryz.prog w base spare held fuel 29 cs = some x) (hb : Rows.uptoBulk x.1 ≤ Bk) :
  ∃ i o : Int, cs = [.int .i64 i, .int .i64 o] := by
 obtain ⟨xs, n, _, hx, _, hlen, hg⟩ := DataW.trod_struct Tryz.underlying29 hf
 match cs, hsz with
 | [a0, a1], _ =>
  match xs, hlen with
  | [x0, x1], _ =>
   have hbx : Rows.uptoBulkAll [x0.1, x1.1] + 1 ≤ Bk := by
    rw [hx] at hb
    simpa [bulk_agg] using hb
   simp only [bulk_cons] at hbx
   have c0 : Tryz.prog.cellsOf 2 = 1 := by kernel_rfl
   obtain ⟨i, e0, _, w0⟩ := DataW.trod_int Tryz.underlying2 (hg 0 _ rfl)
   obtain ⟨o, e1, _, w1⟩ := DataW.trod_int Tryz.underlying2 (hg 1 _ rfl)
   simp [c0] at e0 e1
   obtain ⟨rfl, rfl⟩ := And.intro e0 e1
   exact ⟨i, o, rfl⟩
def RnQ (x : Rn) : Prop := x.text.length ≤ 2000000 ∧ x.ruby.length ≤ 2000000
theorem rn_of {fuel : Nat} {cs : List Value} {x : DataW H × List MemPlace} (hsz : cs.length = 5) (hf : DataW.trod enc Tryz.prog w base spare held fuel 230 cs = some x) (hb : Rows.uptoBulk x.1 ≤ Bk) :
  ∃ a, Flat Rn.cs w cs a ∧ RnQ a := by
 obtain ⟨xs, n, _, hx, _, hlen, hg⟩ := DataW.trod_struct Tryz.underlying230 hf
 match cs, hsz with
 | [a0, a1, a2, a3, a4], _ =>
  match xs, hlen with
  | [x0, x1, x2], _ =>
   have hbx : Rows.uptoBulkAll [x0.1, x1.1, x2.1] + 1 ≤ Bk := by
    rw [hx] at hb
    simpa [bulk_agg] using hb
   simp only [bulk_cons] at hbx
   have c0 : Tryz.prog.cellsOf 9 = 1 := by kernel_rfl
   have c1 : Tryz.prog.cellsOf 110 = 3 := by kernel_rfl
   obtain ⟨s0, e0, d0, _⟩ := DataW.trod_string Tryz.underlying9 (hg 0 _ rfl)
   have l0 : s0.data.toList.length ≤ 2000000 := by
    have : Rows.uptoBulk x0.1 = s0.data.toList.length + 1 := by rw [d0]; exact bulk_str _
    simp only [Bk] at hbx
    omega
   obtain ⟨co, it, un, e1⟩ := st_of (by simp [c0, c1]) (hg 1 _ rfl) (by simp only [Bk] at hbx ⊢; omega)
   obtain ⟨s2, e2, d2, _⟩ := DataW.trod_string Tryz.underlying9 (hg 2 _ rfl)
   have l2 : s2.data.toList.length ≤ 2000000 := by
    have : Rows.uptoBulk x2.1 = s2.data.toList.length + 1 := by rw [d2]; exact bulk_str _
    simp only [Bk] at hbx
    omega
   simp [c0, c1] at e0 e1 e2
   obtain ⟨rfl, rfl, rfl⟩ := e1
   subst e0 e2
   exact ⟨⟨s0.data.toList, co, it, un, s2.data.toList⟩, by show _ = Rn.cs _; unfold Rn.cs; rw [sB_of2, sB_of2], l0, l2⟩
instance inhOruns_of : Inhabited Rn := ⟨⟨[], 0, false, false, []⟩⟩
theorem runs_of {fuel : Nat} {cs : List Value} {x : DataW H × List MemPlace} (hf : DataW.trod enc Tryz.prog w base spare held fuel 162 cs = some x) (hb : Rows.uptoBulk x.1 ≤ Bk) :
  ∃ v xs, cs = [v] ∧ SeqAt w 5 (Flat Rn.cs) v xs ∧ (∀ a ∈ xs, RnQ a) ∧ xs.length ≤ 2000000 :=
 open_seq Tryz.underlying162 (by kernel_rfl) (by decide) (Flat Rn.cs) RnQ (fun n cs y h1 h2 h3 => rn_of h1 h2 h3) hf hb
theorem row_of {fuel : Nat} {cs : List Value} {x : DataW H × List MemPlace} (hsz : cs.length = 1) (hf : DataW.trod enc Tryz.prog w base spare held fuel 164 cs = some x) (hb : Rows.uptoBulk x.1 ≤ Bk) :
  ∃ a, RowC w cs a ∧ Sml a := by
 obtain ⟨xs, n, _, hx, _, hlen, hg⟩ := DataW.trod_struct Tryz.underlying164 hf
 match cs, hsz with
 | [a0], _ =>
  match xs, hlen with
  | [x0], _ =>
   have hbx : Rows.uptoBulkAll [x0.1] + 1 ≤ Bk := by
    rw [hx] at hb
    simpa [bulk_agg] using hb
   simp only [bulk_cons] at hbx
   have c0 : Tryz.prog.cellsOf 162 = 1 := by kernel_rfl
   obtain ⟨v, xs', e0, h0, k0, l0⟩ := runs_of (hg 0 _ rfl) (by simp only [Bk] at hbx ⊢; omega)
   simp [c0] at e0
   subst e0
   exact ⟨xs', ⟨_, rfl, h0⟩, l0, k0⟩
theorem rows_of {fuel : Nat} {cs : List Value} {x : DataW H × List MemPlace} (hf : DataW.trod enc Tryz.prog w base spare held fuel 53 cs = some x) (hb : Rows.uptoBulk x.1 ≤ Bk) :
  ∃ v xs, cs = [v] ∧ SeqAt w 1 RowC v xs ∧ (∀ a ∈ xs, Sml a) ∧ xs.length ≤ 2000000 :=
 open_seq Tryz.underlying53 (by kernel_rfl) (by decide) RowC Sml (fun n cs y h1 h2 h3 => row_of h1 h2 h3) hf hb
def EvQ (x : Ev) : Prop := SmlR x.rows ∧ 0 ≤ x.kind ∧ x.kind ≤ 255
theorem ev_of {fuel : Nat} {cs : List Value} {x : DataW H × List MemPlace} (hsz : cs.length = 7) (hf : DataW.trod enc Tryz.prog w base spare held fuel 55 cs = some x) (hb : Rows.uptoBulk x.1 ≤ Bk) :
  ∃ a, EvC w cs a ∧ EvQ a := by
 obtain ⟨xs, n, _, hx, _, hlen, hg⟩ := DataW.trod_struct Tryz.underlying55 hf
 match cs, hsz with
 | [a0, a1, a2, a3, a4, a5, a6], _ =>
  match xs, hlen with
  | [x0, x1, x2, x3, x4, x5], _ =>
   have hbx : Rows.uptoBulkAll [x0.1, x1.1, x2.1, x3.1, x4.1, x5.1] + 1 ≤ Bk := by
    rw [hx] at hb
    simpa [bulk_agg] using hb
   simp only [bulk_cons] at hbx
   have c0 : Tryz.prog.cellsOf 2 = 1 := by kernel_rfl
   have c1 : Tryz.prog.cellsOf 29 = 2 := by kernel_rfl
   have c2 : Tryz.prog.cellsOf 9 = 1 := by kernel_rfl
   have c3 : Tryz.prog.cellsOf 52 = 1 := by kernel_rfl
   have c4 : Tryz.prog.cellsOf 53 = 1 := by kernel_rfl
   obtain ⟨id, e0, _, w0⟩ := DataW.trod_int Tryz.underlying2 (hg 0 _ rfl)
   obtain ⟨i, o, e1⟩ := spn_of (by simp [c0, c1, c2, c3, c4]) (hg 1 _ rfl) (by simp only [Bk] at hbx ⊢; omega)
   obtain ⟨s2, e2, d2, _⟩ := DataW.trod_string Tryz.underlying9 (hg 2 _ rfl)
   have l2 : s2.data.toList.length ≤ 2000000 := by
    have : Rows.uptoBulk x2.1 = s2.data.toList.length + 1 := by rw [d2]; exact bulk_str _
    simp only [Bk] at hbx
    omega
   obtain ⟨kd, e3, _, w3⟩ := DataW.trod_int Tryz.underlying52 (hg 3 _ rfl)
   obtain ⟨s4, e4, d4, _⟩ := DataW.trod_string Tryz.underlying9 (hg 4 _ rfl)
   have l4 : s4.data.toList.length ≤ 2000000 := by
    have : Rows.uptoBulk x4.1 = s4.data.toList.length + 1 := by rw [d4]; exact bulk_str _
    simp only [Bk] at hbx
    omega
   obtain ⟨v, xs', e5, h5, k5, l5⟩ := rows_of (hg 5 _ rfl) (by simp only [Bk] at hbx ⊢; omega)
   simp [c0, c1, c2, c3, c4] at e0 e1 e2 e3 e4 e5
   obtain ⟨rfl, rfl⟩ := e1
   subst e0 e2 e3 e4 e5
   have u3 := u8_of w3
   exact ⟨⟨id, i, o, s2.data.toList, kd, s4.data.toList, xs'⟩, ⟨_, by unfold Ev.cs; rw [sB_of2, sB_of2], h5⟩, ⟨l5, k5⟩, u3.1, u3.2⟩
instance inhOevs_of : Inhabited Ev := ⟨⟨0, 0, 0, [], 0, [], []⟩⟩
theorem evs_of {fuel : Nat} {cs : List Value} {x : DataW H × List MemPlace} (hf : DataW.trod enc Tryz.prog w base spare held fuel 38 cs = some x) (hb : Rows.uptoBulk x.1 ≤ Bk) :
  ∃ v xs, cs = [v] ∧ SeqAt w 7 EvC v xs ∧ (∀ a ∈ xs, EvQ a) ∧ xs.length ≤ 2000000 :=
 open_seq Tryz.underlying38 (by kernel_rfl) (by decide) EvC EvQ (fun n cs y h1 h2 h3 => ev_of h1 h2 h3) hf hb
def AllQ {α : Type} (x : α) : Prop := True
theorem rg_of {fuel : Nat} {cs : List Value} {x : DataW H × List MemPlace} (hsz : cs.length = 7) (hf : DataW.trod enc Tryz.prog w base spare held fuel 128 cs = some x) (hb : Rows.uptoBulk x.1 ≤ Bk) :
  ∃ a, Flat Rg.cs w cs a ∧ AllQ a := by
 obtain ⟨xs, n, _, hx, _, hlen, hg⟩ := DataW.trod_struct Tryz.underlying128 hf
 match cs, hsz with
 | [a0, a1, a2, a3, a4, a5, a6], _ =>
  match xs, hlen with
  | [x0, x1, x2, x3, x4, x5, x6], _ =>
   have hbx : Rows.uptoBulkAll [x0.1, x1.1, x2.1, x3.1, x4.1, x5.1, x6.1] + 1 ≤ Bk := by
    rw [hx] at hb
    simpa [bulk_agg] using hb
   simp only [bulk_cons] at hbx
   have c0 : Tryz.prog.cellsOf 9 = 1 := by kernel_rfl
   have c1 : Tryz.prog.cellsOf 3 = 1 := by kernel_rfl
   have c2 : Tryz.prog.cellsOf 126 = 1 := by kernel_rfl
   have c3 : Tryz.prog.cellsOf 4 = 1 := by kernel_rfl
   obtain ⟨s0, e0, d0, _⟩ := DataW.trod_string Tryz.underlying9 (hg 0 _ rfl)
   have l0 : s0.data.toList.length ≤ 2000000 := by
    have : Rows.uptoBulk x0.1 = s0.data.toList.length + 1 := by rw [d0]; exact bulk_str _
    simp only [Bk] at hbx
    omega
   obtain ⟨t, e1, _, w1⟩ := DataW.trod_int Tryz.underlying3 (hg 1 _ rfl)
   obtain ⟨h, e2, _, w2⟩ := DataW.trod_int Tryz.underlying3 (hg 2 _ rfl)
   obtain ⟨l, e3, _, w3⟩ := DataW.trod_int Tryz.underlying3 (hg 3 _ rfl)
   obtain ⟨wd, e4, _, w4⟩ := DataW.trod_int Tryz.underlying3 (hg 4 _ rfl)
   obtain ⟨al, e5, _, w5⟩ := DataW.trod_int Tryz.underlying126 (hg 5 _ rfl)
   obtain ⟨b, e6, _⟩ := DataW.trod_bool Tryz.underlying4 (hg 6 _ rfl)
   simp [c0, c1, c2, c3] at e0 e1 e2 e3 e4 e5 e6
   subst e0 e1 e2 e3 e4 e5 e6
   exact ⟨⟨s0.data.toList, t, h, l, wd, al, b⟩, by show _ = Rg.cs _; unfold Rg.cs; rw [sB_of2], trivial⟩
instance inhOregs_of : Inhabited Rg := ⟨⟨[], 0, 0, 0, 0, 0, false⟩⟩
theorem regs_of {fuel : Nat} {cs : List Value} {x : DataW H × List MemPlace} (hf : DataW.trod enc Tryz.prog w base spare held fuel 37 cs = some x) (hb : Rows.uptoBulk x.1 ≤ Bk) :
  ∃ v xs, cs = [v] ∧ SeqAt w 7 (Flat Rg.cs) v xs ∧ (∀ a ∈ xs, AllQ a) ∧ xs.length ≤ 2000000 :=
 open_seq Tryz.underlying37 (by kernel_rfl) (by decide) (Flat Rg.cs) AllQ (fun n cs y h1 h2 h3 => rg_of h1 h2 h3) hf hb
theorem cm_of {fuel : Nat} {cs : List Value} {x : DataW H × List MemPlace} (hsz : cs.length = 8) (hf : DataW.trod enc Tryz.prog w base spare held fuel 137 cs = some x) (hb : Rows.uptoBulk x.1 ≤ Bk) :
  ∃ a, Flat Cm.cs w cs a ∧ CmOk a := by
 obtain ⟨xs, n, _, hx, _, hlen, hg⟩ := DataW.trod_struct Tryz.underlying137 hf
 match cs, hsz with
 | [a0, a1, a2, a3, a4, a5, a6, a7], _ =>
  match xs, hlen with
  | [x0, x1, x2, x3, x4, x5, x6, x7], _ =>
   have hbx : Rows.uptoBulkAll [x0.1, x1.1, x2.1, x3.1, x4.1, x5.1, x6.1, x7.1] + 1 ≤ Bk := by
    rw [hx] at hb
    simpa [bulk_agg] using hb
   simp only [bulk_cons] at hbx
   have c0 : Tryz.prog.cellsOf 2 = 1 := by kernel_rfl
   have c1 : Tryz.prog.cellsOf 3 = 1 := by kernel_rfl
   have c2 : Tryz.prog.cellsOf 9 = 1 := by kernel_rfl
   have c3 : Tryz.prog.cellsOf 4 = 1 := by kernel_rfl
   obtain ⟨id, e0, _, w0⟩ := DataW.trod_int Tryz.underlying2 (hg 0 _ rfl)
   obtain ⟨ev, e1, _, w1⟩ := DataW.trod_int Tryz.underlying2 (hg 1 _ rfl)
   obtain ⟨fr, e2, _, w2⟩ := DataW.trod_int Tryz.underlying3 (hg 2 _ rfl)
   obtain ⟨til, e3, _, w3⟩ := DataW.trod_int Tryz.underlying3 (hg 3 _ rfl)
   obtain ⟨s4, e4, d4, _⟩ := DataW.trod_string Tryz.underlying9 (hg 4 _ rfl)
   have l4 : s4.data.toList.length ≤ 2000000 := by
    have : Rows.uptoBulk x4.1 = s4.data.toList.length + 1 := by rw [d4]; exact bulk_str _
    simp only [Bk] at hbx
    omega
   obtain ⟨s5, e5, d5, _⟩ := DataW.trod_string Tryz.underlying9 (hg 5 _ rfl)
   have l5 : s5.data.toList.length ≤ 2000000 := by
    have : Rows.uptoBulk x5.1 = s5.data.toList.length + 1 := by rw [d5]; exact bulk_str _
    simp only [Bk] at hbx
    omega
   obtain ⟨b1, e6, _⟩ := DataW.trod_bool Tryz.underlying4 (hg 6 _ rfl)
   obtain ⟨b2, e7, _⟩ := DataW.trod_bool Tryz.underlying4 (hg 7 _ rfl)
   simp [c0, c1, c2, c3] at e0 e1 e2 e3 e4 e5 e6 e7
   subst e0 e1 e2 e3 e4 e5 e6 e7
   exact ⟨⟨id, ev, fr, til, s4.data.toList, s5.data.toList, b1, b2⟩, by show _ = Cm.cs _; unfold Cm.cs; rw [sB_of2, sB_of2], i64_in w0, l5⟩
instance inhOcms_of : Inhabited Cm := ⟨⟨0, 0, 0, 0, [], [], false, false⟩⟩
theorem cms_of {fuel : Nat} {cs : List Value} {x : DataW H × List MemPlace} (hf : DataW.trod enc Tryz.prog w base spare held fuel 39 cs = some x) (hb : Rows.uptoBulk x.1 ≤ Bk) :
  ∃ v xs, cs = [v] ∧ SeqAt w 8 (Flat Cm.cs) v xs ∧ (∀ a ∈ xs, CmOk a) ∧ xs.length ≤ 2000000 :=
 open_seq Tryz.underlying39 (by kernel_rfl) (by decide) (Flat Cm.cs) CmOk (fun n cs y h1 h2 h3 => cm_of h1 h2 h3) hf hb
theorem dc_of {fuel : Nat} {cs : List Value} {x : DataW H × List MemPlace} (hsz : cs.length = 8) (hf : DataW.trod enc Tryz.prog w base spare held fuel 41 cs = some x) (hb : Rows.uptoBulk x.1 ≤ Bk) :
  ∃ (d : Dc) (r e c : Value), cs = d.cs r e c ∧ DocAt w d r e c ∧ DcOk d := by
 obtain ⟨xs, n, _, hx, _, hlen, hg⟩ := DataW.trod_struct Tryz.underlying41 hf
 match cs, hsz with
 | [a0, a1, a2, a3, a4, a5, a6, a7], _ =>
  match xs, hlen with
  | [x0, x1, x2, x3, x4, x5, x6, x7], _ =>
   have hbx : Rows.uptoBulkAll [x0.1, x1.1, x2.1, x3.1, x4.1, x5.1, x6.1, x7.1] + 1 ≤ Bk := by
    rw [hx] at hb
    simpa [bulk_agg] using hb
   simp only [bulk_cons] at hbx
   have c0 : Tryz.prog.cellsOf 9 = 1 := by kernel_rfl
   have c1 : Tryz.prog.cellsOf 23 = 1 := by kernel_rfl
   have c2 : Tryz.prog.cellsOf 4 = 1 := by kernel_rfl
   have c3 : Tryz.prog.cellsOf 2 = 1 := by kernel_rfl
   have c4 : Tryz.prog.cellsOf 37 = 1 := by kernel_rfl
   have c5 : Tryz.prog.cellsOf 38 = 1 := by kernel_rfl
   have c6 : Tryz.prog.cellsOf 39 = 1 := by kernel_rfl
   obtain ⟨s0, e0, d0, _⟩ := DataW.trod_string Tryz.underlying9 (hg 0 _ rfl)
   have l0 : s0.data.toList.length ≤ 2000000 := by
    have : Rows.uptoBulk x0.1 = s0.data.toList.length + 1 := by rw [d0]; exact bulk_str _
    simp only [Bk] at hbx
    omega
   obtain ⟨s1, e1, d1, _⟩ := DataW.trod_string Tryz.underlying9 (hg 1 _ rfl)
   have l1 : s1.data.toList.length ≤ 2000000 := by
    have : Rows.uptoBulk x1.1 = s1.data.toList.length + 1 := by rw [d1]; exact bulk_str _
    simp only [Bk] at hbx
    omega
   obtain ⟨rt, e2, _, w2⟩ := DataW.trod_int Tryz.underlying23 (hg 2 _ rfl)
   obtain ⟨dr, e3, _⟩ := DataW.trod_bool Tryz.underlying4 (hg 3 _ rfl)
   obtain ⟨la, e4, _, w4⟩ := DataW.trod_int Tryz.underlying2 (hg 4 _ rfl)
   obtain ⟨rv, rs, e5, h5, k5, l5⟩ := regs_of (hg 5 _ rfl) (by simp only [Bk] at hbx ⊢; omega)
   obtain ⟨ev, es, e6, h6, k6, l6⟩ := evs_of (hg 6 _ rfl) (by simp only [Bk] at hbx ⊢; omega)
   obtain ⟨cv, ks, e7, h7, k7, l7⟩ := cms_of (hg 7 _ rfl) (by simp only [Bk] at hbx ⊢; omega)
   simp [c0, c1, c2, c3, c4, c5, c6] at e0 e1 e2 e3 e4 e5 e6 e7
   subst e0 e1 e2 e3 e4 e5 e6 e7
   exact ⟨⟨s0.data.toList, s1.data.toList, rt, dr, la, rs, es, ks⟩, _, _, _, by unfold Dc.cs; rw [sB_of2, sB_of2], ⟨h5, h6, h7⟩, ⟨l0, u8_of w2, l5, l6, l7, k6, k7⟩⟩
instance inhOrds_of : Inhabited Rd := ⟨⟨[], ⟨[], [], 0, false, 0, [], [], []⟩⟩⟩
instance inhOcuts_of : Inhabited Ct := ⟨⟨0, [], 0, 0, 0, 0, 0⟩⟩
theorem open_doc {r0 : Reach} {b0 : Nat} {v : Value} {d : DataW H} {p : List MemPlace} (hv : Value.okWide Tryz.prog w r0 b0 41 v) (h : DataW.Trod enc Tryz.prog w base spare held 41 v d p) (hb : Rows.uptoBulk d ≤ Bk) :
  ∃ (l : Dc) (r e c : Value), v = l.v r e c ∧ DocAt w l r e c ∧ DcOk l := by
 obtain ⟨cs, rfl, hsz⟩ := okWide_struct Tryz.underlying41 hv
 obtain ⟨lst⟩ := cs
 have hsz : lst.length = 8 := hsz.trans (by kernel_rfl)
 obtain ⟨fuel, hf⟩ := h
 obtain ⟨l, r, e, c, eq, h1, h2⟩ := dc_of hsz (by simpa [Value.cells] using hf) hb
 subst eq
 exact ⟨l, r, e, c, rfl, h1, h2⟩
end
open Go.ChangeShapes Go.WideShapes Go.ChangeAt Go.RowKit Go.Joins Go.Lib
theorem own : ownKnob Tryz.prog.godebug = none := by kernel_rfl
theorem laidOut : laidOutB Tryz.prog = true := by kernel_rfl
abbrev laidAll : List (String × DataW Unit) := Rows.topFatesUptoRow.laid
theorem u8x : U8Extra Tryz.prog Tryz.lays196_ren := ⟨by kernel_rfl, by kernel_rfl, by kernel_rfl, by kernel_rfl, by kernel_rfl, by kernel_rfl, by kernel_rfl⟩
theorem eFirst : Rows.laid_unicode_utf8_first = Lib.firstData := by kernel_rfl
theorem eAccept : (Rows.laid_unicode_utf8_acceptRanges : DataW Unit) = Lib.acceptData := by kernel_rfl
theorem wt_of {W : World} (h : laidMetH Tryz.prog laidAll W) (hsh : W.ShapedOpen Tryz.prog) : Wt W := by
 refine ⟨?_, Go.Proofs.cell_of_shapedOpen_int (zero := #[.int .i64 0]) (t := 3) hsh (of_decide_eq_true (by kernel_rfl)) (by kernel_rfl) rfl (by kernel_rfl) (by kernel_rfl) Tryz.underlying3⟩
 have h3 : Lib.VarReads Tryz.prog W "unicode/utf8.first" Lib.firstData := Lib.laidMet.reads h (by rw [← eFirst]; exact List.mem_cons_of_mem _ (List.mem_cons_self ..))
 have h4 : Lib.VarReads Tryz.prog W "unicode/utf8.acceptRanges" Lib.acceptData := Lib.laidMet.reads h (by rw [← eAccept]; exact List.mem_cons_self ..)
 exact utf8Tabs_of_readsT (U8Types.of196 Tryz.lays196) u8x h3 h4
def putCells (cs : Array Value) : Obj → Obj
 | .cells _ t fr => .cells cs t fr
 | o => o
def flatD : Nat → DataW Unit → List Value
 | _, .lit (.int k n) => [.int k n]
 | f + 1, .agg l => l.flatMap (flatD f)
 | _, _ => []
noncomputable def laidW (os : Os) : World :=
 { World.doorLaid Tryz.prog 100 os with heap := ((World.doorLaid Tryz.prog 100 os).heap.modify 0 (putCells (flatD 3 Rows.laid_unicode_utf8_first).toArray)).modify 1 (putCells (flatD 3 Rows.laid_unicode_utf8_acceptRanges).toArray) }
theorem metAll (os : Os) (args : Array Value) : laidMet Tryz.prog laidAll ((laidW os).forCall (fun _ _ => 0) ⟨#[], args, []⟩).memory :=
 laidMet_of_run' 600 (by kernel_rfl) (by kernel_rfl)
theorem bulk_three {H : Type} {a b c : DataW H} (h : Rows.uptoSmall H [a, b, c] = true) : Rows.uptoBulk a ≤ Bk ∧ Rows.uptoBulk b ≤ Bk ∧ Rows.uptoBulk c ≤ Bk := by
 have h1 : Rows.uptoBulkAll [a, b, c] ≤ 1048576 := by simpa [Rows.uptoSmall] using h
 simp only [bulk_cons] at h1
 simp only [Bk]
 omega
theorem open_i64 {H : Type} {enc : TypeId × Value → H} {w : World} {base : Nat} {spare : Nat → Bool} {held : Bool} {r : Reach} {b0 : Nat} {v : Value} {d : DataW H} {p : List MemPlace} (hv : Value.okWide Tryz.prog w r b0 2 v) (h : DataW.Trod enc Tryz.prog w base spare held 2 v d p) :
  ∃ n : Int, v = .int .i64 n ∧ -9223372036854775808 ≤ n ∧ n ≤ 9223372036854775807 := by
 obtain ⟨n, rfl, _, _, wx⟩ := open_int Tryz.underlying2 hv h
 exact ⟨n, rfl, (i64_in wx).1, (i64_in wx).2⟩
end Go.Proofs.YtmopjhbfobmklaaGreatDoor
