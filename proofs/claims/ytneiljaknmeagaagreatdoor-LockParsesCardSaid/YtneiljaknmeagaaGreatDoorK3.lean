/-
  The contracts of Index and Contains at int64, of Name, and of the search for a reel. Their conditions are their hypotheses.
-/
import Derived.Test.YtneiljaknmeagaaGreatDoorK2
namespace Go.Proofs.YtneiljaknmeagaaGreatDoor
open Go.RowKit Go.Joins
set_option linter.unusedVariables false
set_option linter.unusedSimpArgs false
theorem mem_take_succ {α : Type} {xs : List α} {k : Nat} {u v : α} (hk : xs[k]? = some u) : v ∈ xs.take (k + 1) ↔ v ∈ xs.take k ∨ v = u := by
  rw [List.take_add_one, hk]
  simp
def IdxP (xs : List Int) (v : Int) (w : World) (e : Ending) (w' : World) : Prop :=
  ((∃ k, xs[k]? = some v ∧ v ∉ xs.take k ∧ e = .returned (.int .i64 (k : Nat))) ∨ (v ∉ xs ∧ e = .returned (.int .i64 (-1)))) ∧ w = w'
theorem index_any (A : Option Addr) (c : Nat) (xs : List Int) (v : Int) (w : World) (h : IntsAt w A xs) (hl : xs.length ≤ 9223372036854775807) :
    Calls Tryz.prog 62 #[.slice A xs.length c, .int .i64 v] w (IdxP xs v w) := by
  have H := Lib.hid h
  clear h
  go_enter Tryz.func62, Tryz.ntmps62
  go_wp2_with fail
  go_loop [8] (fun i => ∃ k : Nat, k ≤ xs.length ∧ i = .int .i64 k ∧ Hid (v ∉ xs.take k)) (fun i => xs.length - (intOf i).toNat)
  case atStart => exact ⟨0, by omega, rfl, Lib.hid (by simp)⟩
  case round =>
    obtain ⟨k, hk, rfl, HN⟩ := hrel
    by_cases hlt : k < xs.length
    · have hlt2 : (k : Int) < (xs.length : Int) := by omega
      obtain ⟨b, o, rfl, hc⟩ := H.out.get hlt
      have HX := Lib.hid (show xs[k]? = some (xs.getD k 0) by simp [hlt])
      generalize xs.getD k 0 = u at *
      by_cases hv : v = u
      · have HE := Lib.hid (show IdxP xs v w (.returned (.int .i64 k)) w from ⟨.inl ⟨k, by rw [HX.out, hv], HN.out, rfl⟩, rfl⟩)
        have t1 : (v == u) = true := by simpa using hv
        clear hv
        go_wp2_with fail
        go_ret
        exact HE.out
      · have t1 : (v == u) = false := by simpa using hv
        have HM := Lib.hid (show v ∉ xs.take (k + 1) by rw [mem_take_succ HX.out]; simp [HN.out, hv])
        clear hv
        go_wp2_with fail
        go_round
        case rel => exact ⟨k + 1, by omega, by go_num, HM⟩
        case measure => simp [intOf]; omega
    · obtain rfl : k = xs.length := by omega
      have HE := Lib.hid (show IdxP xs v w (.returned (.int .i64 (-1))) w from ⟨.inr ⟨by have := HN.out; rwa [List.take_length] at this, rfl⟩, rfl⟩)
      clear hlt
      go_wp2_with fail
      go_ret
      exact HE.out
theorem contains_any (A : Option Addr) (c : Nat) (xs : List Int) (v : Int) (w : World) (h : IntsAt w A xs) (hl : xs.length ≤ 9223372036854775807) {b : Bool} (hb : b = decide (v ∈ xs)) :
    Calls Tryz.prog 48 #[.slice A xs.length c, .int .i64 v] w fun e w' => e = .returned (.bool b) ∧ w = w' := by
  have HI := Lib.hid (index_any A c xs v w h hl)
  have HB := Lib.hid hb
  clear h hb
  go_enter Tryz.func48, Tryz.ntmps48
  go_wp2_with fail
  refine HI.out.mono ?_
  rintro e w' ⟨h1, rfl⟩
  rcases h1 with ⟨k, hk, hn, rfl⟩ | ⟨hn, rfl⟩
  · have HT := Lib.hid (show b = true by rw [HB.out]; exact decide_eq_true (List.mem_of_getElem? hk))
    have t1 : (0 : Int) ≤ (k : Int) := by omega
    clear hk hn
    go_wp2_with fail
    go_ret
    exact ⟨by rw [HT.out]; rfl, rfl⟩
  · have HT := Lib.hid (show b = false by rw [HB.out]; exact decide_eq_false hn)
    clear hn
    go_wp2_with fail
    go_ret
    exact ⟨by rw [HT.out]; rfl, rfl⟩
end Go.Proofs.YtneiljaknmeagaaGreatDoor
