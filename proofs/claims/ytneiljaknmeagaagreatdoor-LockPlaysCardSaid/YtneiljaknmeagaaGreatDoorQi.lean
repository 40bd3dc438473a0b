/-
  The contracts of ContainsFunc at a lease with the literal that looks for a fencing number, and of CutSuffix. Their conditions are their hypotheses.
-/
import Derived.Test.YtneiljaknmeagaaGreatDoorQb
import Derived.Test.YtneiljaknmeagaaGreatDoorBj
namespace Go.Proofs.YtneiljaknmeagaaGreatDoor
open Go.RowKit Go.Joins
set_option linter.unusedVariables false
set_option linter.unusedSimpArgs false
theorem dupf_any (g : Nat) (x : Ls) (f : Int) (w : World) (hg : w.cell? ⟨g, 2, none⟩ = some (.int .i64 f)) {b : Bool} (hb : b = decide (x.fen = f)) :
    Calls Tryz.prog 79 #[lsA x, .pointer (some ⟨g, 0, none⟩)] w fun e w' => e = .returned (.bool b) ∧ Below w.heap.size w w' := by
  have hgl := World.block_lt_of_cell? w _ hg
  have hne : g ≠ w.heap.size := Nat.ne_of_lt hgl
  have t1 : (x.fen == f) = b := by rw [hb]; rfl
  unfold lsA
  clear hb
  go_enter Tryz.func79, Tryz.ntmps79
  go_wp2_with fail
  go_ret
  exact ⟨by first | rfl | rw [t1], below_one _ _⟩
set_option maxHeartbeats 1000000 in
theorem dupi_any (g : Nat) (A : Option Addr) (c : Nat) (L : List Ls) (f : Int) (w : World) (h : LeasAt w A L) (hg : w.cell? ⟨g, 2, none⟩ = some (.int .i64 f)) (hl : L.length ≤ 1000000000) {R : Bool} (hR : R = L.any (fun y => decide (y.fen = f))) :
    Calls Tryz.prog 83 #[.slice A L.length c, .func (.func 79) #[] #[.pointer (some ⟨g, 0, none⟩)]] w fun e w' => ∃ r : Int, e = .returned (.int .i64 r) ∧ decide (0 ≤ r) = R ∧ Below w.heap.size w w' := by
  have H := Lib.hid h
  have HG := Lib.hid hg
  have hgl := World.block_lt_of_cell? w _ hg
  obtain ⟨D, hD⟩ : ∃ D, D = w.heap.size := ⟨_, rfl⟩
  have HD := Lib.hid hD
  rw [← hD] at hgl ⊢
  have HR := Lib.hid hR
  clear h hg hD hR
  go_enter Tryz.func83, Tryz.ntmps83
  go_wp2_with fail
  go_loopw [8] (fun i wr => ∃ k : Nat, k ≤ L.length ∧ i = .int .i64 k ∧ Hid (∀ j x, j < k → L[j]? = some x → x.fen ≠ f) ∧ Hid (Below D w wr)) (fun i _ => L.length - (intOf i).toNat)
  case atStart => exact ⟨0, by omega, rfl, Lib.hid (fun j x hj _ => by omega), Lib.hid (Below.refl _ _)⟩
  case round =>
    obtain ⟨k, hk, rfl, HK, G⟩ := hrel
    have hDw : D ≤ wr.heap.size := by have := G.out.size; have := HD.out; omega
    by_cases hlt : k < L.length
    · have hlt2 : (k : Int) < (L.length : Int) := by omega
      obtain ⟨x, hx⟩ : ∃ x, L[k]? = some x := ⟨_, List.getElem?_eq_getElem hlt⟩
      have HX := Lib.hid hx
      have HRw := H.out.below (HD.out ▸ G.out) (Nat.le_refl _)
      obtain ⟨gg, o, rfl⟩ := LeasAt.some HRw hx
      obtain ⟨q0, q1, q2, q3⟩ := LeasAt.get HRw hx
      have hcg := Lib.hid ((G.out.cell (p := ⟨g, 2, none⟩) hgl).trans HG.out)
      clear HRw hx
      by_cases hf : x.fen = f
      · have HF := Lib.hid (dupf_any g x f wr hcg.out (b := true) (decide_eq_true hf).symm)
        obtain rfl : R = true := by rw [HR.out, List.any_eq_true]; exact ⟨x, List.mem_of_getElem? HX.out, decide_eq_true hf⟩
        clear hf
        unfold lsA at HF
        go_wp2_with fail
        refine HF.out.mono ?_
        rintro e w2 ⟨rfl, hb⟩
        have G2 := Lib.hid (G.out.trans (hb.mono hDw))
        clear hb q0 q1 q2 q3
        go_wp2_with fail
        go_ret
        exact ⟨_, rfl, by simp, G2.out⟩
      · have HF := Lib.hid (dupf_any g x f wr hcg.out (b := false) (decide_eq_false hf).symm)
        have HNF := Lib.hid hf
        clear hf
        unfold lsA at HF
        go_wp2_with fail
        refine HF.out.mono ?_
        rintro e w2 ⟨rfl, hb⟩
        have G2 := Lib.hid (G.out.trans (hb.mono hDw))
        clear hb q0 q1 q2 q3
        go_wp2_with fail
        go_roundw
        case rel => exact ⟨k + 1, by omega, by go_num, Lib.hid (fun j m hj hm => by
          by_cases hjk : j < k
          · exact HK.out j m hjk hm
          · obtain rfl : j = k := by omega
            rw [HX.out] at hm
            cases hm
            exact HNF.out), G2⟩
        case measure => simp [intOf]; omega
    · obtain rfl : k = L.length := by omega
      obtain rfl : R = false := by
        rw [HR.out, List.any_eq_false]
        intro x hx
        obtain ⟨j, hj, e⟩ := List.mem_iff_getElem.1 hx
        have := HK.out j x hj (by rw [List.getElem?_eq_getElem hj, e])
        simp [this]
      clear hlt
      go_wp2_with fail
      go_ret
      exact ⟨_, rfl, by decide, G.out⟩
theorem dupc_any (g : Nat) (A : Option Addr) (c : Nat) (L : List Ls) (f : Int) (w : World) (h : LeasAt w A L) (hg : w.cell? ⟨g, 2, none⟩ = some (.int .i64 f)) (hl : L.length ≤ 1000000000) {R : Bool} (hR : R = L.any (fun y => decide (y.fen = f))) :
    Calls Tryz.prog 78 #[.slice A L.length c, .func (.func 79) #[] #[.pointer (some ⟨g, 0, none⟩)]] w fun e w' => e = .returned (.bool R) ∧ Below w.heap.size w w' := by
  have HI := Lib.hid (dupi_any g A c L f w h hg hl hR)
  clear h hg hR
  go_enter Tryz.func78, Tryz.ntmps78
  go_wp2_with fail
  refine HI.out.mono ?_
  rintro e w2 ⟨r, rfl, hr, hb⟩
  have HRR := Lib.hid hr
  have G := Lib.hid hb
  clear hr hb
  go_wp2_with fail
  go_ret
  refine ⟨?_, G.out⟩
  rw [← HRR.out]
  rfl
/-! the last line's end -/
def nlB (l : List UInt8) : Bool := decide (l.getLast? = some 10)
def bodL (l : List UInt8) : List UInt8 := if nlB l = true then l.dropLast else l
theorem last_ext {l : List UInt8} (h : 1 ≤ l.length) : ((sB l).extract (l.length - 1) l.length).toList = [l.getLastD 0] := by
  rw [Lib.toList_data]
  obtain ⟨M, b, rfl⟩ : ∃ M b, l = M ++ [b] := by
    rcases List.eq_nil_or_concat l with rfl | ⟨M, b, rfl⟩
    · simp at h
    · exact ⟨M, b, by simp⟩
  simp [sB]
theorem last_dec {l : List UInt8} (h : 1 ≤ l.length) : ([l.getLastD 0] == [10]) = nlB l := by
  obtain ⟨M, b, rfl⟩ : ∃ M b, l = M ++ [b] := by
    rcases List.eq_nil_or_concat l with rfl | ⟨M, b, rfl⟩
    · simp at h
    · exact ⟨M, b, by simp⟩
  unfold nlB
  by_cases hb : b = 10
  · simp [hb]
  · simp [hb]
theorem sB_init {l : List UInt8} (h : nlB l = true) : (sB l).extract 0 (l.length - 1) = sB (bodL l) := ByteArray.ext (by
  apply Array.ext'
  unfold bodL
  rw [if_pos h]
  simp [sB, List.dropLast_eq_take])
theorem hass_any (l : List UInt8) (w : World) (hs : l.length ≤ 100000) :
    Calls Tryz.prog 73 #[.string (sB l), .string ⟨#[10]⟩] w fun e w' => e = .returned (.bool (nlB l)) ∧ w' = w := by
  have hz := sB_size l
  by_cases h1 : 1 ≤ l.length
  · have h1' : (1 : Int) ≤ ((sB l).size : Int) := by omega
    have h2' : (1 : Int) ≤ (l.length : Int) := by omega
    go_enter Tryz.func73, Tryz.ntmps73
    go_wp2_with fail
    go_ret
    exact ⟨by rw [last_ext h1, last_dec h1]; rfl, rfl⟩
  · have h1' : ((sB l).size : Int) < 1 := by omega
    have hl : nlB l = false := by rw [List.eq_nil_of_length_eq_zero (l := l) (by omega)]; rfl
    rw [hl]
    clear hl
    go_enter Tryz.func73, Tryz.ntmps73
    go_wp2_with fail
    go_ret
    exact ⟨rfl, rfl⟩
theorem cuts_any (l : List UInt8) (w : World) (hs : l.length ≤ 100000) :
    Calls Tryz.prog 23 #[.string (sB l), .string ⟨#[10]⟩] w fun e w' => e = .returned (.tuple #[.string (sB (bodL l)), .bool (nlB l)]) ∧ w' = w := by
  have hz := sB_size l
  have HP := Lib.hid (fun W => hass_any l W hs)
  have h2 : Calls Tryz.prog 52 #[.string (sB l), .string ⟨#[10]⟩] w fun e w' => e = .returned (.tuple #[.string (sB (bodL l)), .bool (nlB l)]) ∧ w' = w := by
    cases hn : nlB l with
    | true =>
      rw [hn] at HP
      have hl1 : (1 : Int) ≤ (l.length : Int) := by
        have h := of_decide_eq_true hn
        cases l with
        | nil => cases h
        | cons x r => have : (x :: r).length = r.length + 1 := rfl; omega
      have hl2 : (0 : Int) ≤ (l.length : Int) - 1 := by omega
      have e1 : ((l.length : Int) - 1).toNat = l.length - 1 := by omega
      have HE := Lib.hid (sB_init hn)
      clear hn
      go_enter Tryz.func52, Tryz.ntmps52
      go_wp2_with fail
      refine (HP.out w).mono ?_
      rintro e w1 ⟨rfl, rfl⟩
      go_wp2_with fail
      go_ret2
      exact ⟨by rw [← HE.out]; rfl, rfl⟩
    | false =>
      rw [hn] at HP
      have he : sB (bodL l) = sB l := by
        unfold bodL
        rw [if_neg (by rw [hn]; decide)]
      rw [he]
      clear hn he
      go_enter Tryz.func52, Tryz.ntmps52
      go_wp2_with fail
      refine (HP.out w).mono ?_
      rintro e w1 ⟨rfl, rfl⟩
      go_wp2_with fail
      go_ret2
      exact ⟨rfl, rfl⟩
  generalize bodL l = d at *
  generalize nlB l = b at *
  go_enter Tryz.func23, Tryz.ntmps23
  go_wp2_with fail
  refine h2.mono ?_
  rintro e w1 ⟨rfl, rfl⟩
  go_wp2_with fail
  go_ret2
  exact ⟨rfl, rfl⟩
end Go.Proofs.YtneiljaknmeagaaGreatDoor
