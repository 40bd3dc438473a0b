/-
  The contracts of the literal in Close, and of IndexFunc and DeleteFunc at leases with it. Their conditions are their hypotheses.
-/
import Derived.Test.YtneiljaknmeagaaGreatDoorRe
import Derived.Test.YtneiljaknmeagaaGreatDoorK7
import Derived.Test.YtneiljaknmeagaaGreatDoorQi
namespace Go.Proofs.YtneiljaknmeagaaGreatDoor
open Go.RowKit Go.Joins
set_option linter.unusedVariables false
set_option linter.unusedSimpArgs false
theorem clf_any (g : Nat) (x : Ls) (s : Int) (w : World) (hg : w.cell? ⟨g, 0, none⟩ = some (.int .i64 s)) {b : Bool} (hb : b = decide (x.ses = s)) :
    Calls Tryz.prog 65 #[lsA x, .pointer (some ⟨g, 0, none⟩)] w fun e w' => e = .returned (.bool b) ∧ Below w.heap.size w w' := by
  have hgl := World.block_lt_of_cell? w _ hg
  have hne : g ≠ w.heap.size := Nat.ne_of_lt hgl
  have t1 : (x.ses == s) = b := by rw [hb]; rfl
  unfold lsA
  clear hb
  go_enter Tryz.func65, Tryz.ntmps65
  go_wp2_with fail
  go_ret
  exact ⟨by first | rfl | rw [t1], below_one _ _⟩
set_option maxHeartbeats 1000000 in
theorem cli_any (g : Nat) (A : Option Addr) (c : Nat) (L : List Ls) (s : Int) (w : World) (h : LeasAt w A L) (hg : w.cell? ⟨g, 0, none⟩ = some (.int .i64 s)) (hl : L.length ≤ 1000) :
    Calls Tryz.prog 83 #[.slice A L.length c, .func (.func 65) #[] #[.pointer (some ⟨g, 0, none⟩)]] w fun e w' => (∃ r : Int, e = .returned (.int .i64 r) ∧ ((r = -1 ∧ ∀ (j : Nat) (x : Ls), L[j]? = some x → x.ses ≠ s) ∨ ∃ (k : Nat) (x : Ls), r = k ∧ L[k]? = some x ∧ x.ses = s ∧ ∀ (j : Nat) (y : Ls), j < k → L[j]? = some y → y.ses ≠ s)) ∧ Below w.heap.size w w' := by
  have H := Lib.hid h
  have HG := Lib.hid hg
  have hgl := World.block_lt_of_cell? w _ hg
  obtain ⟨D, hD⟩ : ∃ D, D = w.heap.size := ⟨_, rfl⟩
  have HD := Lib.hid hD
  rw [← hD] at hgl ⊢
  clear h hg hD
  go_enter Tryz.func83, Tryz.ntmps83
  go_wp2_with fail
  go_loopw [8] (fun i wr => ∃ k : Nat, k ≤ L.length ∧ i = .int .i64 k ∧ Hid (∀ (j : Nat) (x : Ls), j < k → L[j]? = some x → x.ses ≠ s) ∧ Hid (Below D w wr)) (fun i _ => L.length - (intOf i).toNat)
  case atStart => exact ⟨0, by omega, rfl, Lib.hid (fun j x hj _ => by omega), Lib.hid (Below.refl _ _)⟩
  case round =>
    obtain ⟨k, hk, rfl, HK, G⟩ := hrel
    have hDw : D ≤ wr.heap.size := by have := G.out.size; have := HD.out; omega
    by_cases hlt : k < L.length
    · have hlt2 : (k : Int) < (L.length : Int) := by omega
      obtain ⟨x, hx⟩ : ∃ x, L[k]? = some x := ⟨_, List.getElem?_eq_getElem hlt⟩
      have HX := Lib.hid hx
      have HRw := H.out.below (HD.out ▸ G.out) (Nat.le_refl _)
      obtain ⟨gg, o, rfl⟩ := LeasAt.some HRw hx
      obtain ⟨q0, q1, q2, q3⟩ := LeasAt.get HRw hx
      have hcg := Lib.hid ((G.out.cell (p := ⟨g, 0, none⟩) hgl).trans HG.out)
      clear HRw hx
      by_cases hf : x.ses = s
      · have HF := Lib.hid (clf_any g x s wr hcg.out (b := true) (decide_eq_true hf).symm)
        have HFS := Lib.hid hf
        clear hf
        unfold lsA at HF
        go_wp2_with fail
        refine HF.out.mono ?_
        rintro e w2 ⟨rfl, hb⟩
        have G2 := Lib.hid (G.out.trans (hb.mono hDw))
        clear hb q0 q1 q2 q3
        go_wp2_with fail
        go_ret
        exact ⟨⟨_, rfl, .inr ⟨k, x, rfl, HX.out, HFS.out, HK.out⟩⟩, G2.out⟩
      · have HF := Lib.hid (clf_any g x s wr hcg.out (b := false) (decide_eq_false hf).symm)
        have HNF := Lib.hid hf
        clear hf
        unfold lsA at HF
        go_wp2_with fail
        refine HF.out.mono ?_
        rintro e w2 ⟨rfl, hb⟩
        have G2 := Lib.hid (G.out.trans (hb.mono hDw))
        clear hb q0 q1 q2 q3
        go_wp2_with fail
        go_roundw
        case rel => exact ⟨k + 1, by omega, by go_num, Lib.hid (fun j m hj hm => by
          by_cases hjk : j < k
          · exact HK.out j m hjk hm
          · obtain rfl : j = k := by omega
            rw [HX.out] at hm
            cases hm
            exact HNF.out), G2⟩
        case measure => simp [intOf]; omega
    · obtain rfl : k = L.length := by omega
      clear hlt
      go_wp2_with fail
      go_ret
      exact ⟨⟨_, rfl, .inl ⟨rfl, fun j x hx => HK.out j x (List.getElem?_eq_some_iff.1 hx).1 hx⟩⟩, G.out⟩
theorem zero_len4 (k : Nat) : (Builtin.zeroCells (Value.cells (.agg #[.string ⟨#[]⟩, .int .i64 0, .int .i64 0, .int .i64 0])) k).toList.length = k * 4 := by
  rw [Array.length_toList]
  simp [Builtin.zeroCells, Value.cells]
theorem zero_one4 (k : Nat) : ∀ u ∈ (Builtin.zeroCells (Value.cells (.agg #[.string ⟨#[]⟩, .int .i64 0, .int .i64 0, .int .i64 0])) k).toList, u.oneCell' = true := by
  intro u hu
  rw [Array.mem_toList_iff] at hu
  unfold Builtin.zeroCells at hu
  obtain ⟨i, _, rfl⟩ := Array.mem_map.1 hu
  have h4 : (Value.cells (.agg #[.string ⟨#[]⟩, .int .i64 0, .int .i64 0, .int .i64 0])).size = 4 := rfl
  rw [h4]
  have h5 : i % 4 < 4 := Nat.mod_lt _ (by decide)
  generalize i % 4 = j at h5
  match j, h5 with
  | 0, _ => rfl
  | 1, _ => rfl
  | 2, _ => rfl
  | 3, _ => rfl
theorem run_clearN (w : World) (ty : TypeId) (g o n c : Nat) (hn0 : 0 < n) (cur : List Value) (hg : w.heap[g]? = some (.cells cur.toArray 49 (0, 0))) (hfit : o + n * 4 ≤ cur.length) :
    (Builtin.clear_ #[28] ty #[.slice (some ⟨g, o, none⟩) n c]).run Tryz.prog w = .ok (.tuple #[]) (w.setRow g (splice cur o (Builtin.zeroCells (Value.cells (.agg #[.string ⟨#[]⟩, .int .i64 0, .int .i64 0, .int .i64 0])) n).toList).toArray) := by
  have hst := run_storeCells_at Tryz.prog g o 49 (Builtin.zeroCells (Value.cells (.agg #[.string ⟨#[]⟩, .int .i64 0, .int .i64 0, .int .i64 0])) n).toList 0 cur.toArray w hg (by rw [zero_len4]; simp; omega) (zero_one4 n)
  have hv : ∀ w, (zeroValue 49).run Tryz.prog w = .ok (.agg #[.string ⟨#[]⟩, .int .i64 0, .int .i64 0, .int .i64 0]) w := Tryz.zeroValue49
  obtain ⟨m, rfl⟩ : ∃ m, n = m + 1 := ⟨n - 1, by omega⟩
  simp [Builtin.clear_, run_underlying Tryz.underlying28, hv, hst, splice]
/-- What DeleteFunc leaves. -/
def DelP (B : Nat) (lv : Value) (L' : List Ls) (W : World) (e : Ending) (w' : World) : Prop :=
  ∃ v', e = .returned v' ∧ w'.ownsRow B 49 4 v' L'.length (L'.flatMap lsV) ∧ Below B W w' ∧ (∀ g, g < W.heap.size → lv.ownBlock ≠ some g → w'.heap[g]? = W.heap[g]?) ∧ ∀ g, v'.ownBlock = some g → lv.ownBlock = some g
theorem keepL_all {s : Int} : ∀ {L : List Ls}, (∀ x ∈ L, x.ses ≠ s) → keepL s L = L := fun h => by
  unfold keepL
  exact List.filter_eq_self.2 (fun x hx => decide_eq_true (h x hx))
theorem flat_set4 (y : Ls) : ∀ (C : List Ls) (k : Nat), k < C.length → ((((C.flatMap lsV).set (k * 4) (.string (sB y.reel))).set (k * 4 + 1) (.int .i64 y.ses)).set (k * 4 + 2) (.int .i64 y.fen)).set (k * 4 + 3) (.int .i64 y.unt) = (C.set k y).flatMap lsV
  | [], k, h => by simp at h
  | c :: r, 0, _ => by simp [lsV]
  | c :: r, k + 1, h => by
    have ih := flat_set4 y r k (by simpa using h)
    have e : ∀ i, (k + 1) * 4 + i = k * 4 + i + 4 := fun i => by omega
    rw [show (k + 1) * 4 = k * 4 + 4 by omega]
    simp only [List.flatMap_cons, lsV, List.cons_append, List.nil_append, List.set_cons_succ, List.set_cons_zero, show k * 4 + 4 + 1 = k * 4 + 1 + 4 by omega, show k * 4 + 4 + 2 = k * 4 + 2 + 4 by omega, show k * 4 + 4 + 3 = k * 4 + 3 + 4 by omega]
    rw [← ih]
set_option maxRecDepth 100000 in
set_option maxHeartbeats 2000000 in
theorem delf_any (B gs : Nat) (lv : Value) (L : List Ls) (s : Int) (w : World) (hown : w.ownsRow B 49 4 lv L.length (L.flatMap lsV)) (hg : w.cell? ⟨gs, 0, none⟩ = some (.int .i64 s)) (hne : lv.ownBlock ≠ some gs) (hl : L.length ≤ 1000) (hB : B ≤ w.heap.size) :
    Calls Tryz.prog 64 #[lv, .func (.func 65) #[] #[.pointer (some ⟨gs, 0, none⟩)]] w (DelP B lv (keepL s L) w) := by
  obtain ⟨A, c, rfl, hr, hnc, hcm⟩ := leas_of_own hown
  have HOW := Lib.hid hown
  have HG := Lib.hid hg
  have HNE := Lib.hid hne
  have HIX := Lib.hid (cli_any gs A c L s w hr hg hl)
  have hcm' : c ≤ 9223372036854775807 := by simpa [maxLen] using hcm
  have hgs := World.block_lt_of_cell? w _ hg
  clear hown hg hr hne
  unfold DelP
  go_enter Tryz.func64, Tryz.ntmps64
  go_wp2_with fail
  refine HIX.out.mono ?_
  clear HIX
  rintro e w1 ⟨⟨r, rfl, hor⟩, hb⟩
  have G1 := Lib.hid hb
  have HO1 := Lib.hid (own_ext HOW.out hb)
  have HC1 := Lib.hid ((hb.cell (p := ⟨gs, 0, none⟩) hgs).trans HG.out)
  clear hb
  rcases hor with ⟨rfl, hno⟩ | ⟨k, x, rfl, hx, hxs, hlo⟩
  · have HK := Lib.hid (show keepL s L = L from keepL_all (fun x hx => by
      obtain ⟨j, hj⟩ := List.mem_iff_getElem?.1 hx
      exact hno j x hj))
    clear hno
    go_wp2_with fail
    go_ret
    rw [HK.out]
    exact ⟨_, rfl, HO1.out, G1.out.mono hB, fun g hg _ => G1.out.block g hg, fun g hg => hg⟩
  · have hkl := (List.getElem?_eq_some_iff.1 hx).1
    obtain ⟨g, cap, hv, hgB, hgw⟩ := HO1.out.form (by omega)
    cases hv
    have hgg : g ≠ gs := fun e => HNE.out (by rw [e]; rfl)
    have hgw0 : g < w.heap.size := (HOW.out.lt g rfl).2
    have h1 : keepL s (L.take k) = L.take k := keepL_all (fun y hy => by
      obtain ⟨j, hj⟩ := List.mem_iff_getElem?.1 hy
      rw [List.getElem?_take] at hj
      split at hj
      · rename_i hjk
        exact hlo j y hjk hj
      · cases hj)
    have HS0 := Lib.hid (show L.take k = keepL s (L.take (k + 1)) by rw [keepL_step hx, if_neg (fun h => h hxs), List.append_nil, h1])
    have hk1 : ((k : Int) == -1) = false := by rw [beq_eq_false_iff_ne]; omega
    have hk2 : (k : Int) ≤ 1000 := by omega
    have HKL := Lib.hid hkl
    clear h1 hlo hx hxs
    go_wp2_with fail
    go_loopw [5, 6] (fun i j wr => ∃ (ni nj : Nat) (C : List Ls), i = .int .i64 ni ∧ j = .int .i64 nj ∧ nj ≤ L.length ∧ ni < nj ∧ C.length = L.length ∧ Hid (C.take ni = keepL s (L.take nj)) ∧ Hid (C.drop nj = L.drop nj) ∧ Hid (wr.ownsRow B 49 4 (.slice (some ⟨g, 0, none⟩) L.length c) L.length (C.flatMap lsV)) ∧ Hid (wr.cell? ⟨gs, 0, none⟩ = some (.int .i64 s)) ∧ Hid (Below B w wr) ∧ Hid (∀ b, b < w.heap.size → b ≠ g → wr.heap[b]? = w.heap[b]?)) (fun _ j _ => L.length - (intOf j).toNat)
    case atStart => exact ⟨k, k + 1, L, rfl, by go_num, by omega, by omega, rfl, HS0, Lib.hid rfl, HO1, HC1, Lib.hid (G1.out.mono hB), Lib.hid (fun b hb _ => G1.out.block b hb)⟩
    case round =>
      obtain ⟨ni, nj, C, rfl, rfl, hnj, hij, hCl, HT, HDR, HO, HC, G, HK⟩ := hrel
      have hww : w.heap.size ≤ wr.heap.size := G.out.size
      have hcl : C.length = L.length := hCl
      have HCL := Lib.hid hCl
      clear hCl
      have HRw := Lib.hid (show LeasAt wr (some ⟨g, 0, none⟩) C by
        obtain ⟨A', c', e', hr', _⟩ := row_of_ownK HO.out
        cases e'
        exact hr')
      by_cases hlt : nj < L.length
      · have hlt2 : (nj : Int) < (L.length : Int) := by omega
        have hlt3 : (ni : Int) < (L.length : Int) := by omega
        have hnb : (nj : Int) ≤ 1000 := by omega
        obtain ⟨y, hy⟩ : ∃ y, L[nj]? = some y := ⟨_, List.getElem?_eq_getElem hlt⟩
        have HX := Lib.hid hy
        have hyc : C[nj]? = some y := by
          have h1 := congrArg (fun l => l[0]?) HDR.out
          simp only [List.getElem?_drop, Nat.add_zero] at h1
          rw [h1]
          exact hy
        obtain ⟨z, hz⟩ : ∃ z, C[ni]? = some z := ⟨_, List.getElem?_eq_getElem (by omega)⟩
        obtain ⟨q0, q1, q2, q3⟩ := LeasAt.get HRw.out hyc
        rw [Nat.zero_add] at q0 q1 q2 q3
        have HZ := Lib.hid hz
        have hgr : g < wr.heap.size := Nat.lt_of_lt_of_le hgw0 hww
        have HT2 := Lib.hid (show (C.set ni y).take (ni + 1) = C.take ni ++ [y] by
          rw [List.take_add_one, List.getElem?_set_self (by omega), List.take_set_of_le (Nat.le_refl _)]
          rfl)
        have HD1 := Lib.hid (show C.drop (nj + 1) = L.drop (nj + 1) by
          have h1 := congrArg (List.drop 1) HDR.out
          rw [List.drop_drop, List.drop_drop] at h1
          exact h1)
        have HD2 := Lib.hid (show (C.set ni y).drop (nj + 1) = L.drop (nj + 1) by
          rw [List.drop_set_of_lt (by omega)]
          exact HD1.out)
        clear hy hyc hz
        go_wp2_with fail
        obtain ⟨b7, hb7⟩ : ∃ b7, b7 = wr.heap.size := ⟨_, rfl⟩
        rw [← hb7]
        generalize hw2 : World.alloc _ _ = w2
        have F2 := Lib.hid (show Held w2 b7 [.string (sB y.reel), .int .i64 y.ses, .int .i64 y.fen, .int .i64 y.unt] by rw [← hw2]; exact Held.new hb7)
        have B2 := Lib.hid (show Below wr.heap.size wr w2 by rw [← hw2]; exact below_one _ _)
        have HC2 := Lib.hid ((B2.out.cell (p := ⟨gs, 0, none⟩) (World.block_lt_of_cell? wr _ HC.out)).trans HC.out)
        have hg7 : g ≠ b7 := by omega
        clear hw2 q0 q1 q2 q3 hb7
        by_cases hf : y.ses = s
        · have HS := Lib.hid (show keepL s (L.take (nj + 1)) = keepL s (L.take nj) by rw [keepL_step HX.out, if_neg (fun h => h hf), List.append_nil])
          have HF := Lib.hid (clf_any gs y s w2 HC2.out (b := true) (decide_eq_true hf).symm)
          unfold lsA at HF
          clear hf
          refine HF.out.mono ?_
          rintro e w3 ⟨rfl, hb⟩
          have B3 := Lib.hid (B2.out.trans (hb.mono B2.out.size))
          clear hb HF F2 HC2 B2
          go_wp2_with fail
          go_roundw
          case rel => exact ⟨ni, nj + 1, C, rfl, by go_num, by omega, by omega, HCL.out, Lib.hid (by rw [HS.out]; exact HT.out), HD1, Lib.hid (own_ext HO.out B3.out), Lib.hid ((B3.out.cell (p := ⟨gs, 0, none⟩) (World.block_lt_of_cell? wr _ HC.out)).trans HC.out), Lib.hid (G.out.trans (B3.out.mono (by omega))), Lib.hid (fun b hb hbg => (B3.out.block b (by omega)).trans (HK.out b hb hbg))⟩
          case measure => simp [intOf]; omega
        · have HS := Lib.hid (show keepL s (L.take (nj + 1)) = keepL s (L.take nj) ++ [y] by rw [keepL_step HX.out, if_pos hf])
          have HF := Lib.hid (clf_any gs y s w2 HC2.out (b := false) (decide_eq_false hf).symm)
          unfold lsA at HF
          clear hf
          refine HF.out.mono ?_
          rintro e w3 ⟨rfl, hb⟩
          have B3 := Lib.hid (B2.out.trans (hb.mono B2.out.size))
          have F3 := Lib.hid (F2.out.ext hb)
          have HO3 := Lib.hid (own_ext HO.out B3.out)
          have HR3 := Lib.hid (RowAt.ext HRw.out B3.out)
          obtain ⟨z0, z1, z2, z3⟩ := LeasAt.get HR3.out HZ.out
          rw [Nat.zero_add] at z0 z1 z2 z3
          have yf : ∀ i, w3.frozen? ⟨g, i, none⟩ = false := by
            obtain ⟨cur, hc⟩ := own_block HO3.out (g := g) rfl
            exact fun i => unfrozen_of_block hc i
          have q7 := F3.out.cell
          have l7 := F3.out.lt
          have hg7' : b7 ≠ g := Ne.symm hg7
          have HC3 := Lib.hid ((B3.out.cell (p := ⟨gs, 0, none⟩) (World.block_lt_of_cell? wr _ HC.out)).trans HC.out)
          clear hb HF F2 HC2 B2
          go_wp2_with fail
          have HO4 := Lib.hid (show ((((w3.setCell ⟨g, ni * 4, none⟩ (.string (sB y.reel))).setCell ⟨g, ni * 4 + 1, none⟩ (.int .i64 y.ses)).setCell ⟨g, ni * 4 + 2, none⟩ (.int .i64 y.fen)).setCell ⟨g, ni * 4 + 3, none⟩ (.int .i64 y.unt)).ownsRow B 49 4 (.slice (some ⟨g, 0, none⟩) L.length c) L.length ((C.set ni y).flatMap lsV) by
            have hfl : (C.flatMap lsV).length = C.length * 4 := by rw [flat_len lsV_len]
            have := own_cell (own_cell (own_cell (own_cell HO3.out (ni * 4) (.string (sB y.reel)) (by rw [hfl]; omega)) (ni * 4 + 1) (.int .i64 y.ses) (by rw [List.length_set, hfl]; omega)) (ni * 4 + 2) (.int .i64 y.fen) (by rw [List.length_set, List.length_set, hfl]; omega)) (ni * 4 + 3) (.int .i64 y.unt) (by rw [List.length_set, List.length_set, List.length_set, hfl]; omega)
            rw [flat_set4 y C ni (by omega)] at this
            exact this)
          have HK4 := Lib.hid (show ∀ b, b ≠ g → ((((w3.setCell ⟨g, ni * 4, none⟩ (.string (sB y.reel))).setCell ⟨g, ni * 4 + 1, none⟩ (.int .i64 y.ses)).setCell ⟨g, ni * 4 + 2, none⟩ (.int .i64 y.fen)).setCell ⟨g, ni * 4 + 3, none⟩ (.int .i64 y.unt)).heap[b]? = w3.heap[b]? from fun b hb => ((Below.heap_setCell _ ⟨g, ni * 4 + 3, none⟩ _ b hb).trans ((Below.heap_setCell _ ⟨g, ni * 4 + 2, none⟩ _ b hb).trans ((Below.heap_setCell _ ⟨g, ni * 4 + 1, none⟩ _ b hb).trans (Below.heap_setCell _ ⟨g, ni * 4, none⟩ _ b hb)))))
          have G4 := Lib.hid (((((G.out.trans (B3.out.mono (show B ≤ wr.heap.size by omega))).setCell (p := ⟨g, ni * 4, none⟩) hgB (.string (sB y.reel))).setCell (p := ⟨g, ni * 4 + 1, none⟩) hgB (.int .i64 y.ses)).setCell (p := ⟨g, ni * 4 + 2, none⟩) hgB (.int .i64 y.fen)).setCell (p := ⟨g, ni * 4 + 3, none⟩) hgB (.int .i64 y.unt))
          go_roundw
          case rel => exact ⟨ni + 1, nj + 1, C.set ni y, by go_num, by go_num, by omega, by omega, by rw [List.length_set]; exact HCL.out, Lib.hid (by rw [HS.out, HT2.out, HT.out]), HD2, HO4, Lib.hid ((World.cell?_of_block (HK4.out gs (Ne.symm hgg))).trans HC3.out), G4, Lib.hid (fun b hb hbg => (HK4.out b hbg).trans ((B3.out.block b (by omega)).trans (HK.out b hb hbg)))⟩
          case measure => simp [intOf]; omega
      · obtain rfl : nj = L.length := by omega
        rw [List.take_length] at HT
        obtain ⟨cur, hgc, hsz, hpre⟩ : ∃ cur : List Value, wr.heap[g]? = some (.cells cur.toArray 49 (0, 0)) ∧ cur.length = c * 4 ∧ cur.take (L.length * 4) = C.flatMap lsV := by
          rcases HO.out.2 with ⟨h, _⟩ | ⟨g', cap', cur, h, h1, h2, h3, h4, h5, h6⟩
          · cases h
          · cases h
            exact ⟨cur.toList, by rw [Array.toArray_toList]; exact h2, by rw [Array.length_toList]; exact h5, h6⟩
        obtain ⟨zs, hzs⟩ : ∃ zs, zs = (Builtin.zeroCells (Value.cells (.agg #[.string ⟨#[]⟩, .int .i64 0, .int .i64 0, .int .i64 0])) (L.length - ni)).toList := ⟨_, rfl⟩
        have hzl : zs.length = (L.length - ni) * 4 := by rw [hzs]; exact zero_len4 _
        obtain ⟨W2, hW2⟩ : ∃ W2, W2 = wr.setRow g (splice cur (ni * 4) zs).toArray := ⟨_, rfl⟩
        have HCR := Lib.hid (show ∀ ty c', (Builtin.clear_ #[28] ty #[.slice (some ⟨g, ni * 4, none⟩) (L.length - ni) c']).run Tryz.prog wr = .ok (.tuple #[]) W2 from fun ty c' => by
          rw [hW2, hzs]
          exact run_clearN wr ty g (ni * 4) (L.length - ni) c' (by omega) cur hgc (by rw [hsz]; omega))
        have hkl : (keepL s L).length = ni := by rw [← HT.out, List.length_take]; omega
        have HF := Lib.hid (show W2.ownsRow B 49 4 (.slice (some ⟨g, 0, none⟩) ni c) (keepL s L).length ((keepL s L).flatMap lsV) by
          rw [hkl]
          refine ⟨by rw [flat_len lsV_len, hkl], .inr ⟨g, c, _, rfl, hgB, by rw [hW2]; exact setRow_heap wr g _ _ _ _ hgc, by omega, hcm, ?_, ?_⟩⟩
          · rw [List.size_toArray, length_splice _ _ _ (by rw [hzl, hsz]; omega), hsz]
          · show (splice cur (ni * 4) _).take (ni * 4) = _
            unfold splice
            rw [List.take_append_of_le_length (by rw [List.length_take, hsz]; omega), List.take_take, Nat.min_self, ← HT.out, ← flat_take lsV_len, ← hpre, List.take_take]
            congr 1
            omega)
        have HGR := Lib.hid (show wr.grownBy W2 (some g) by
          rw [hW2]
          refine ⟨rfl, rfl, rfl, by simp [World.setRow], fun j hj hjg => ?_⟩
          exact setRow_other _ _ _ _ (fun e => hjg (by rw [e])))
        have hcn : ¬ (c = ni) := by omega
        have hn1 : (ni : Int) ≤ (L.length : Int) := by omega
        have hn2 : (ni : Int) ≤ (c : Int) := by omega
        have hnn : (ni : Int) ≤ 1000 := by omega
        have HKN := Lib.hid hkl
        clear hlt hgc hsz hpre hzs hzl hW2 hkl
        have hcl := HCR.out
        go_wp2_with fail
        go_ret
        refine ⟨_, rfl, HF.out, G.out.grown HGR.out (by omega) (fun k hk => by cases hk; exact hgB), fun b hb hbg => ?_, fun b hb => hb⟩
        have hbg' : b ≠ g := fun e => hbg (by rw [e]; rfl)
        exact (HGR.out.block b (by omega) (fun e => hbg' (Option.some.inj e))).trans (HK.out b hb hbg')
end Go.Proofs.YtneiljaknmeagaaGreatDoor
