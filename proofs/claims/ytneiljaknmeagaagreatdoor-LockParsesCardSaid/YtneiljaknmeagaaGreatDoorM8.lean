/-
  The contract of Text. Its conditions are its hypotheses.
-/
import Derived.Test.YtneiljaknmeagaaGreatDoorM7
import Derived.Deep.RegionHeld3
import Derived.BigRegion
namespace Go.Proofs.YtneiljaknmeagaaGreatDoor
open Go.RowKit Go.Joins
set_option linter.unusedVariables false
set_option linter.unusedSimpArgs false
def locksW : List UInt8 := [76, 79, 67, 75, 83]
def sessionW : List UInt8 := [83, 69, 83, 83, 73, 79, 78]
def leaseW : List UInt8 := [76, 69, 65, 83, 69, 32]
def textS (S : List Int) : List UInt8 := S.flatMap fun s => lineT sessionW [s]
def textL (L : List Ls) : List UInt8 := L.flatMap fun x => lineT (leaseW ++ x.reel) [x.ses, x.fen, x.unt]
/-- The text of a table. -/
def textT (T : Tb) : List UInt8 := lineT locksW [T.now, T.ls, T.lf] ++ textS T.ses ++ textL T.lea
/-- A table whose numbers are numbers and whose rows are not long. -/
def Fit (T : Tb) : Prop := I64 T.now ∧ I64 T.ls ∧ I64 T.lf ∧ (∀ s ∈ T.ses, I64 s) ∧ T.ses.length ≤ 1000 ∧ T.lea.length ≤ 1000 ∧ ∀ x ∈ T.lea, x.reel.length ≤ 100 ∧ I64 x.ses ∧ I64 x.fen ∧ I64 x.unt
theorem lineT_len {word : List UInt8} {ns : List Int} (h : ∀ n ∈ ns, I64 n) : (lineT word ns).length ≤ word.length + 22 * ns.length + 1 := by
  have := numsT_len h
  unfold lineT
  simp only [List.length_append, List.length_cons, List.length_nil]
  omega
theorem textS_len : ∀ {S : List Int}, (∀ s ∈ S, I64 s) → (textS S).length ≤ 30 * S.length
  | [], _ => by simp [textS]
  | s :: r, h => by
    have h1 := lineT_len (word := sessionW) (ns := [s]) (by simpa using h s (by simp))
    have h2 := textS_len (S := r) (fun m hm => h m (by simp [hm]))
    unfold textS at *
    rw [List.flatMap_cons, List.length_append]
    have e : sessionW.length = 7 := rfl
    simp only [List.length_cons, List.length_nil] at h1 ⊢
    omega
theorem textL_len : ∀ {L : List Ls}, (∀ x ∈ L, x.reel.length ≤ 100 ∧ I64 x.ses ∧ I64 x.fen ∧ I64 x.unt) → (textL L).length ≤ 173 * L.length
  | [], _ => by simp [textL]
  | x :: r, h => by
    obtain ⟨g0, g1, g2, g3⟩ := h x (by simp)
    have h1 := lineT_len (word := leaseW ++ x.reel) (ns := [x.ses, x.fen, x.unt]) (by
      intro n hn
      simp at hn
      rcases hn with rfl | rfl | rfl <;> assumption)
    have h2 := textL_len (L := r) (fun m hm => h m (by simp [hm]))
    unfold textL at *
    rw [List.flatMap_cons, List.length_append]
    have e : leaseW.length = 6 := rfl
    simp only [List.length_cons, List.length_nil, List.length_append] at h1 ⊢
    omega
theorem textS_snoc {S : List Int} {k : Nat} {s : Int} (h : S[k]? = some s) : textS (S.take (k + 1)) = textS (S.take k) ++ lineT sessionW [s] := by
  rw [List.take_add_one, h]
  simp [textS]
theorem textL_snoc {L : List Ls} {k : Nat} {x : Ls} (h : L[k]? = some x) : textL (L.take (k + 1)) = textL (L.take k) ++ lineT (leaseW ++ x.reel) [x.ses, x.fen, x.unt] := by
  rw [List.take_add_one, h]
  simp [textL]
set_option maxRecDepth 100000 in
set_option maxHeartbeats 2000000 in
theorem text_any (B0 p : Nat) (sv lv : Value) (T : Tb) (w : World) (h : Rep B0 p sv lv T w) (hf : Fit T) (ht : Tab w) :
    Calls Tryz.prog 8 #[.pointer (some ⟨p, 0, none⟩)] w fun e w' => e = .returned (.string (sB (textT T))) ∧ Below w.heap.size w w' := by
  obtain ⟨f0, f1, f2, f3, f4, f5, f6⟩ := hf
  have HR := Lib.hid h
  have q := h.block.cell
  have hpw := h.lt
  obtain ⟨SA, sc, rfl, hsr, hsc, hsm⟩ := ints_of_own h.2.2.1
  obtain ⟨LA, lc, rfl, hlr, hlc, hlm, hfl⟩ := row_of_ownK h.2.2.2
  have HSR := Lib.hid hsr
  have HLR := Lib.hid hlr
  have HF3 := Lib.hid f3
  have HF6 := Lib.hid f6
  have HF0 := Lib.hid (And.intro f0 (And.intro f1 f2))
  have HLN := Lib.hid (textS_len f3)
  obtain ⟨B, hB⟩ : ∃ B, B = w.heap.size := ⟨_, rfl⟩
  have HTB := Lib.hid (show Lib.TabBelow Tryz.prog B w "internal/strconv.uint64pow10" .u64 Lib.pow10Tab from hB ▸ Lib.tabBelow_of_tabIs ht)
  have HB := Lib.hid hB
  rw [← hB]
  clear hfl hlr hsr hsm h ht f0 f1 f2 f3 f6
  unfold textT
  go_enter Tryz.func8, Tryz.ntmps8
  go_wp2_with fail
  rw [← hB]
  generalize hw1 : World.alloc _ _ = w1
  have BI := Lib.hid (show BldI B B [] w1 by subst hw1; rw [hB]; exact Lib.fresh_isBuilder _ _ w)
  have G := Lib.hid (show Below B w w1 by subst hw1; rw [hB]; exact below_one _ _)
  have hpB : p < B := by omega
  clear hw1 hB
  have q0 : w1.cell? ⟨p, 0, none⟩ = some (.int .i64 T.now) := (G.out.cell (p := ⟨p, 0, none⟩) hpB).trans (q 0)
  have q1 : w1.cell? ⟨p, 1, none⟩ = some (.int .i64 T.ls) := (G.out.cell (p := ⟨p, 1, none⟩) hpB).trans (q 1)
  have q2 : w1.cell? ⟨p, 2, none⟩ = some (.int .i64 T.lf) := (G.out.cell (p := ⟨p, 2, none⟩) hpB).trans (q 2)
  have HQ := Lib.hid q
  clear q
  have hBw1 : B ≤ w1.heap.size := Nat.le_of_lt BI.out.lt
  have hpw1 : p < w1.heap.size := by omega
  have hbp : B ≠ p := by omega
  go_wp2_with fail
  go_region_held3 (fun w' => w'.cell? ⟨p, 0, none⟩ = some (.int .i64 T.now) ∧ w'.cell? ⟨p, 1, none⟩ = some (.int .i64 T.ls) ∧ w'.cell? ⟨p, 2, none⟩ = some (.int .i64 T.lf))
    (first
      | go_keep
      | (go_split_ands
         refine ⟨?_, ?_, ?_⟩
         · (rw [hb4.cell (p := ⟨p, 0, none⟩) hpB]; assumption)
         · (rw [hb4.cell (p := ⟨p, 1, none⟩) hpB]; assumption)
         · (rw [hb4.cell (p := ⟨p, 2, none⟩) hpB]; assumption)))
    ((go_at_call 30
      go_loud (refine (line_any B B w1.heap.size 3 [] locksW [T.now, T.ls, T.lf] _ (BldI.ext BI.out ((below_one w1 _).drew)) (heap_at w1 _ rfl) (by decide) (by simp; omega) (HTB.out.on ((G.out.alloc hBw1 _).drew)) (by simp; exact HF0.out) (by simp [locksW])).mono ?_)
      rintro e w4 ⟨rfl, hA4, hb4⟩))
  have HA := Lib.hid (show BldA B B (lineT locksW [T.now, T.ls, T.lf]) w4 by simpa using hA4)
  have G4 := Lib.hid (show Below B w w4 from ((G.out.alloc hBw1 _).drew).trans hb4)
  have HL0 := Lib.hid (show (lineT locksW [T.now, T.ls, T.lf]).length ≤ 72 by
    have := lineT_len (word := locksW) (ns := [T.now, T.ls, T.lf]) (by simp; exact HF0.out)
    have e : locksW.length = 5 := rfl
    simp only [List.length_cons, List.length_nil] at this
    omega)
  generalize hX0 : lineT locksW [T.now, T.ls, T.lf] = X0 at *
  have HX0 := Lib.hid hX0
  clear hX0
  clear hA4 hb4 q0 q1 q2
  have q : ∀ i, w4.cell? ⟨p, i, none⟩ = ([.int .i64 T.now, .int .i64 T.ls, .int .i64 T.lf, .slice SA T.ses.length sc, .slice LA T.lea.length lc] : List Value)[i]? := fun i => (G4.out.cell (p := ⟨p, i, none⟩) hpB).trans (HQ.out i)
  have hBw4 : B < w4.heap.size := HA.out.lt
  have hpw4 : p < w4.heap.size := by omega
  go_wp2_with fail
  clear q
  go_loopw [32] (fun i wr => ∃ k : Nat, k ≤ T.ses.length ∧ i = .int .i64 k ∧ Hid (BldA B B (X0 ++ textS (T.ses.take k)) wr) ∧ Hid (Below B w wr)) (fun i _ => T.ses.length - (intOf i).toNat)
  case atStart => exact ⟨0, by omega, rfl, Lib.hid (by simpa [textS] using HA.out), G4⟩
  case round =>
    obtain ⟨k, hk, rfl, A, GG⟩ := hrel
    have hBr : B < wr.heap.size := A.out.lt
    by_cases hlt : k < T.ses.length
    · have hlt2 : (k : Int) < (T.ses.length : Int) := by omega
      have hln := textS_len (S := T.ses.take k) (fun n hn => HF3.out n (List.mem_of_mem_take hn))
      have hlt' := List.length_take_le k T.ses
      have hl0 := HL0.out
      obtain ⟨n, hn⟩ : ∃ n, T.ses[k]? = some n := ⟨_, List.getElem?_eq_getElem hlt⟩
      have HN := Lib.hid hn
      obtain ⟨b, o, rfl, hc⟩ := (HSR.out.below (HB.out ▸ GG.out) (Nat.le_refl _)) k (.int .i64 n) (by rw [List.getElem?_map, hn]; rfl)
      have HI := Lib.hid (HF3.out n (List.mem_of_getElem? hn))
      clear hn
      go_wp2_with fail
      refine (line_any B B wr.heap.size 1 (X0 ++ textS (T.ses.take k)) sessionW [n] _ (BldI.ext (.inr A.out) (below_one wr _)) (heap_at wr _ rfl) (by decide) (by simp; omega) (HTB.out.on (GG.out.alloc (Nat.le_of_lt hBr) _)) (by simpa using HI.out) (by simp [sessionW]; omega)).mono ?_
      rintro e w5 ⟨rfl, h5, hb5⟩
      rw [List.append_assoc, ← textS_snoc HN.out] at h5
      have A5 := Lib.hid h5
      have G5 := Lib.hid ((GG.out.alloc (Nat.le_of_lt hBr) _).trans hb5)
      clear h5 hb5 hc hln hlt' hl0
      go_wp2_with fail
      go_roundw
      case rel => exact ⟨k + 1, by omega, by go_num, A5, G5⟩
      case measure => simp [intOf]; omega
    · obtain rfl : k = T.ses.length := by omega
      rw [List.take_length] at A
      have hls := HLN.out
      have hl0 := HL0.out
      have HLX := Lib.hid (show (X0 ++ textS T.ses).length ≤ 72 + 30000 by rw [List.length_append]; omega)
      generalize hX1 : X0 ++ textS T.ses = X1 at *
      have HX1 := Lib.hid hX1
      clear hX1
      have q : ∀ i, wr.cell? ⟨p, i, none⟩ = ([.int .i64 T.now, .int .i64 T.ls, .int .i64 T.lf, .slice SA T.ses.length sc, .slice LA T.lea.length lc] : List Value)[i]? := fun i => (GG.out.cell (p := ⟨p, i, none⟩) hpB).trans (HQ.out i)
      have hpwr : p < wr.heap.size := by omega
      clear hlt hls hl0
      go_wp2_with fail
      clear q
      go_loopw [46] (fun i wq => ∃ k : Nat, k ≤ T.lea.length ∧ i = .int .i64 k ∧ Hid (BldA B B (X1 ++ textL (T.lea.take k)) wq) ∧ Hid (Below B w wq)) (fun i _ => T.lea.length - (intOf i).toNat)
      case atStart => exact ⟨0, by omega, rfl, Lib.hid (by simpa [textL] using A.out), GG⟩
      case round =>
        obtain ⟨k, hk, rfl, A, GG⟩ := hrel
        have hBr : B < wr.heap.size := A.out.lt
        by_cases hlt : k < T.lea.length
        · have hlt2 : (k : Int) < (T.lea.length : Int) := by omega
          have hln := textL_len (L := T.lea.take k) (fun n hn => HF6.out n (List.mem_of_mem_take hn))
          have hlt' := List.length_take_le k T.lea
          have hl0 := HLX.out
          obtain ⟨x, hx⟩ : ∃ x, T.lea[k]? = some x := ⟨_, List.getElem?_eq_getElem hlt⟩
          have HX := Lib.hid hx
          have hra := HLR.out.below (HB.out ▸ GG.out) (Nat.le_refl _)
          obtain ⟨g, o, rfl⟩ := LeasAt.some hra hx
          obtain ⟨c0, c1, c2, c3⟩ := LeasAt.get hra hx
          have HI := Lib.hid (HF6.out x (List.mem_of_getElem? hx))
          have hr100 := HI.out.1
          have y := fun w' => show (Op.stringOp .add ⟨#[76, 69, 65, 83, 69, 32]⟩ (sB x.reel)).run Tryz.prog w' = .ok (.string (sB (leaseW ++ x.reel))) w' from add_sB (a := leaseW) (by simp [leaseW]; omega) w'
          clear hx hra
          go_wp2_with fail
          generalize hw6 : World.alloc wr _ = w6
          have A6 := Lib.hid (show BldI B B (X1 ++ textL (T.lea.take k)) w6 by subst hw6; exact BldI.ext (.inr A.out) (below_one wr _))
          have G6 := Lib.hid (show Below B w w6 by subst hw6; exact GG.out.alloc (Nat.le_of_lt hBr) _)
          have hB6 : B < w6.heap.size := A6.out.lt
          have hs6 : wr.heap.size + 1 = w6.heap.size := by subst hw6; simp
          clear hw6
          refine (line_any B B (wr.heap.size + 1) 3 (X1 ++ textL (T.lea.take k)) (leaseW ++ x.reel) [x.ses, x.fen, x.unt] _ (BldI.ext A6.out (below_one w6 _)) (heap_at w6 _ hs6) (by simp [leaseW]) (by simp; omega) (HTB.out.on (G6.out.alloc (Nat.le_of_lt hB6) _)) (by simpa using HI.out.2) (by simp [leaseW]; omega)).mono ?_
          rintro e w5 ⟨rfl, h5, hb5⟩
          rw [List.append_assoc, ← textL_snoc HX.out] at h5
          have A5 := Lib.hid h5
          have G5 := Lib.hid ((G6.out.alloc (Nat.le_of_lt hB6) _).trans hb5)
          clear h5 hb5 hln hlt' hl0 y hs6
          go_wp2_with fail
          go_roundw
          case rel => exact ⟨k + 1, by omega, by go_num, A5, G5⟩
          case measure => simp [intOf]; omega
        · obtain rfl : k = T.lea.length := by omega
          rw [List.take_length] at A
          clear hlt
          go_wp2_with fail
          refine (Tryz.Builder_String_any B B (X1 ++ textL T.lea) wr (.inr A.out) (Nat.le_of_lt hBr)).mono ?_
          rintro e w9 ⟨rfl, hb9⟩
          have G9 := Lib.hid (GG.out.trans hb9)
          clear hb9
          go_wp2_with fail
          go_ret
          exact ⟨by rw [HX0.out, HX1.out]; rfl, G9.out⟩
end Go.Proofs.YtneiljaknmeagaaGreatDoor
