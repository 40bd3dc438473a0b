/-
  The contracts of the methods at a table that is nil. Their conditions are their hypotheses.
-/
import Derived.Test.YtmadiakafeofeaaDoorM8
import Derived.Test.YtmadiakafeofeaaDoorM6
namespace Go.Proofs.YtmadiakafeofeaaDoor
open Go.RowKit Go.Joins
set_option linter.unusedVariables false
set_option linter.unusedSimpArgs false
theorem told_nil (now : Int) (w : World) : Calls Tryd.prog 20 #[.pointer none, .int .i64 now] w fun e w' => e = .returned (.int .i64 1) ∧ w = w' := by
  go_enter Tryd.func20, Tryd.ntmps20
  go_wp2_with fail
  go_ret
  exact ⟨rfl, rfl⟩
theorem open_nil (now : Int) (w : World) : Calls Tryd.prog 9 #[.pointer none, .int .i64 now] w fun e w' => e = .returned (.tuple #[.int .i64 0, .int .i64 1]) ∧ w = w' := by
  go_enter Tryd.func9, Tryd.ntmps9
  go_wp2_with (first | (go_at_call 20; refine (told_nil _ _).mono ?_; rintro e w' ⟨rfl, rfl⟩))
  go_ret2
  exact ⟨rfl, rfl⟩
theorem take_nil (now ses : Int) (s : ByteArray) (w : World) : Calls Tryd.prog 10 #[.pointer none, .int .i64 now, .int .i64 ses, .string s] w fun e w' => e = .returned (.tuple #[.int .i64 0, .int .i64 1]) ∧ w = w' := by
  go_enter Tryd.func10, Tryd.ntmps10
  go_wp2_with (first | (go_at_call 20; refine (told_nil _ _).mono ?_; rintro e w' ⟨rfl, rfl⟩))
  go_ret2
  exact ⟨rfl, rfl⟩
theorem held_nil (now ses : Int) (s : ByteArray) (fen : Int) (w : World) : Calls Tryd.prog 25 #[.pointer none, .int .i64 now, .int .i64 ses, .string s, .int .i64 fen] w fun e w' => e = .returned (.tuple #[.int .i64 0, .int .i64 1]) ∧ w = w' := by
  go_enter Tryd.func25, Tryd.ntmps25
  go_wp2_with (first | (go_at_call 20; refine (told_nil _ _).mono ?_; rintro e w' ⟨rfl, rfl⟩))
  go_ret2
  exact ⟨rfl, rfl⟩
theorem renew_nil (now ses : Int) (s : ByteArray) (fen : Int) (w : World) : Calls Tryd.prog 14 #[.pointer none, .int .i64 now, .int .i64 ses, .string s, .int .i64 fen] w fun e w' => e = .returned (.int .i64 1) ∧ w = w' := by
  go_enter Tryd.func14, Tryd.ntmps14
  go_wp2_with (first | (go_at_call 25; refine (held_nil _ _ _ _ _).mono ?_; rintro e w' ⟨rfl, rfl⟩))
  go_ret
  exact ⟨rfl, rfl⟩
theorem release_nil (now ses : Int) (s : ByteArray) (fen : Int) (w : World) : Calls Tryd.prog 15 #[.pointer none, .int .i64 now, .int .i64 ses, .string s, .int .i64 fen] w fun e w' => e = .returned (.int .i64 1) ∧ w = w' := by
  go_enter Tryd.func15, Tryd.ntmps15
  go_wp2_with (first | (go_at_call 25; refine (held_nil _ _ _ _ _).mono ?_; rintro e w' ⟨rfl, rfl⟩))
  go_ret
  exact ⟨rfl, rfl⟩
theorem check_nil (now ses : Int) (s : ByteArray) (fen : Int) (w : World) : Calls Tryd.prog 11 #[.pointer none, .int .i64 now, .int .i64 ses, .string s, .int .i64 fen] w fun e w' => e = .returned (.int .i64 1) ∧ w = w' := by
  go_enter Tryd.func11, Tryd.ntmps11
  go_wp2_with (first | (go_at_call 25; refine (held_nil _ _ _ _ _).mono ?_; rintro e w' ⟨rfl, rfl⟩))
  go_ret
  exact ⟨rfl, rfl⟩
theorem close_nil (now ses : Int) (w : World) : Calls Tryd.prog 17 #[.pointer none, .int .i64 now, .int .i64 ses] w fun e w' => e = .returned (.int .i64 1) ∧ Below w.heap.size w w' := by
  go_enter Tryd.func17, Tryd.ntmps17
  go_wp2_with (first | (go_at_call 20; refine (told_nil _ _).mono ?_; rintro e w' ⟨rfl, rfl⟩))
  go_ret
  exact ⟨rfl, below_one _ _⟩
theorem leases_nil (now : Int) (w : World) : Calls Tryd.prog 13 #[.pointer none, .int .i64 now] w fun e w' => e = .returned (.slice none 0 0) ∧ w = w' := by
  go_enter Tryd.func13, Tryd.ntmps13
  go_wp2_with fail
  go_ret
  exact ⟨rfl, rfl⟩
theorem sessions_nil  (w : World) : Calls Tryd.prog 19 #[.pointer none] w fun e w' => e = .returned (.slice none 0 0) ∧ w = w' := by
  go_enter Tryd.func19, Tryd.ntmps19
  go_wp2_with fail
  go_ret
  exact ⟨rfl, rfl⟩
theorem text_nil  (w : World) : Calls Tryd.prog 16 #[.pointer none] w fun e w' => e = .returned (.string ⟨#[]⟩) ∧ w = w' := by
  go_enter Tryd.func16, Tryd.ntmps16
  go_wp2_with fail
  go_ret
  exact ⟨rfl, rfl⟩
theorem clone_nil  (w : World) : Calls Tryd.prog 18 #[.pointer none] w fun e w' => e = .returned (.pointer none) ∧ w = w' := by
  go_enter Tryd.func18, Tryd.ntmps18
  go_wp2_with fail
  go_ret
  exact ⟨rfl, rfl⟩
theorem holder_nil (now : Int) (s : ByteArray) (w : World) : Calls Tryd.prog 12 #[.pointer none, .int .i64 now, .string s] w (HoldP (ls0, false) w) := by
  unfold HoldP
  go_enter Tryd.func12, Tryd.ntmps12
  go_wp2_with fail
  exact bodyPost_ret (v := .tuple #[lsA ls0, .bool false]) (by simp [results, Tryd.results12, go_sem, lsA, ls0, sB]; try rfl) rfl ⟨rfl, below_one _ _⟩
end Go.Proofs.YtmadiakafeofeaaDoor
