/-
  The contracts of Parse, in the program and in the reference. Their conditions are their hypotheses.
-/
import Derived.Test.YtnnhbnkelgmaaaaDoorC9
namespace Go.Proofs.YtnnhbnkelgmaaaaDoor
open Go.RowKit
set_option linter.unusedVariables false
set_option linter.unusedSimpArgs false
abbrev Mx (w : World) : Prop := ∃ m, w.cell? ⟨Tryd.laysM146_ren.g 1, 0, none⟩ = some (.int .i64 m)
theorem Mx.on {w w' : World} (h : Mx w) (hb : Below w.heap.size w w') : Mx w' := by
  obtain ⟨m, hm⟩ := h
  exact ⟨m, (hb.cell (World.block_lt_of_cell? w _ hm)).trans hm⟩
def GivesP (w : World) (L : List Int) (x : Int) (e : Ending) (w' : World) : Prop := ∃ A c, e = .returned (.tuple #[.slice A L.length c, .int .i64 x]) ∧ IntsAt w' A L ∧ L.length ≤ c ∧ c ≤ maxLen ∧ Below w.heap.size w w'
theorem gives_nil {w : World} {x : Int} {e : Ending} {w' : World} (he : e = .returned (.tuple #[.slice none 0 0, .int .i64 x])) (hb : Below w.heap.size w w') : GivesP w [] x e w' :=
  ⟨none, 0, he, RowAt.nil _ _, Nat.le_refl _, Nat.zero_le _, hb⟩
def wordsB (s : ByteArray) : List ByteArray := Lib.splitB ⟨#[32]⟩ 0 (Lib.countB s ⟨#[32]⟩) s
theorem wordsB_len (s : ByteArray) : (wordsB s).length = Lib.countB s ⟨#[32]⟩ + 1 := Lib.splitB_all ⟨#[32]⟩ (by decide) 0 _ s rfl
theorem wordsB_le (s : ByteArray) : (wordsB s).length ≤ s.size + 1 := by
  rw [wordsB_len]
  have := Lib.countB_le ⟨#[32]⟩ (by decide) s.size s (Nat.le_refl _)
  omega
theorem wordsB_words (s : ByteArray) : (wordsB s).map (·.data.toList) = wordsL s.data.toList := split_words s
theorem split_any (s : ByteArray) (w : World) (hs : s.size < 4294967281) (hm : Mx w) :
    Calls Tryd.prog 38 #[.string s, .string ⟨#[32]⟩] w fun e w' => e = .returned (.slice (some ⟨w.heap.size, 0, none⟩) (wordsB s).length (wordsB s).length) ∧ w' = w.alloc (.cells ((wordsB s).map Value.string).toArray 9) := by
  obtain ⟨m, hm⟩ := hm
  rw [wordsB_len]
  exact Any.strings_Split { Tryd.laysM146 with } Tryd.laysM146.i9 s ⟨#[32]⟩ m w hs hm (by decide)
theorem nums_words {s : ByteArray} {ws : List ByteArray} {k : Nat} {acc : List Int} (h : ws.map (·.data.toList) = wordsL s.data.toList) (ha : nums ((ws.take k).map (·.data.toList)) = some acc) (hk : k < ws.length) :
    (numL ws[k].data.toList = none → nums (wordsL s.data.toList) = none) ∧ (∀ n, numL ws[k].data.toList = some n → nums ((ws.take (k + 1)).map (·.data.toList)) = some (acc ++ [n])) := by
  refine ⟨fun hn => ?_, fun n hn => ?_⟩
  · rw [← h, ← List.take_append_drop k ws, List.drop_eq_getElem_cons hk, List.map_append, List.map_cons]
    exact nums_bad hn
  · rw [List.take_succ_eq_append_getElem hk, List.map_append]
    exact nums_app ha (nums_one hn)
theorem dash_no {s : ByteArray} (h : s ≠ ⟨#[45]⟩) : s.data.toList ≠ [45] := fun e => h (ByteArray.ext (Array.toList_inj.1 e))
theorem parse_any (s : ByteArray) (w : World) (hs : s.size ≤ 9000) (hm : Mx w) :
    Calls Tryd.prog 27 #[.string s] w fun e w' => GivesP w (parseV s.data.toList).1 (parseV s.data.toList).2 e w' := by
  by_cases hd : s = ⟨#[45]⟩
  · subst hd
    go_enter Tryd.func27, Tryd.ntmps27
    go_wp2_with fail
    go_ret2
    exact gives_nil rfl (Below.refl _ _)
  · have hdb : (s.toList == [45]) = false := by
      rw [beq_eq_false_iff_ne, Lib.toList_data]
      exact dash_no hd
    have HD := Lib.hid (dash_no hd)
    obtain ⟨P, hP⟩ : ∃ P, P = parseV s.data.toList := ⟨_, rfl⟩
    rw [← hP]
    have HP := Lib.hid hP
    have HM := Lib.hid hm
    have HL := Lib.hid (wordsB_words s)
    have hwl := wordsB_le s
    have hsp := split_any s w (by omega) hm
    obtain ⟨ws, hws⟩ : ∃ ws, ws = wordsB s := ⟨_, rfl⟩
    rw [← hws] at hwl hsp HL
    obtain ⟨B, hB⟩ : ∃ B, B = w.heap.size := ⟨_, rfl⟩
    have HB := Lib.hid hB
    obtain ⟨i0, hi, hz0, hz1, hz2⟩ := info_parts i2
    have HI0 := Lib.hid (And.intro hi (And.intro hz0 (And.intro hz1 hz2)))
    have HSP := Lib.hid hsp
    clear hi hz0 hz1 hz2 hd hP hm hws hsp hB
    go_enter Tryd.func27, Tryd.ntmps27
    go_wp2_with fail
    refine (HSP.out).mono ?_
    rintro e w1 ⟨rfl, hw1⟩
    have hcell : ∀ (j : Nat) (x : ByteArray), ws[j]? = some x → w1.cell? ⟨B, 0 + j, none⟩ = some (.string x) := by
      intro j x hj
      subst hw1
      rw [HB.out, World.cell?_alloc_mark w _ _ _ (0 + j)]
      simp [hj]
    have hb1 : Below B w w1 := by subst hw1; rw [HB.out]; exact (Below.refl _ _).alloc (Nat.le_refl _) _
    have hs1 : B + 1 ≤ w1.heap.size := by subst hw1; simp [HB.out]
    have HC := Lib.hid hcell
    have HB1 := Lib.hid hb1
    clear hw1 hb1 hcell
    rw [← HB.out]
    go_wp2_with fail
    go_loopw [15, 4] (fun iv v wr => ∃ (k : Nat) (acc : List Int), k ≤ ws.length ∧ Hid (acc.length = k) ∧ iv = .int .i64 k ∧ Hid (nums ((ws.take k).map (·.data.toList)) = some acc) ∧ Hid (wr.ownsRow (B + 1) 2 1 v acc.length (acc.map (Value.int .i64))) ∧ Hid (Below (B + 1) w1 wr) ∧ B + 1 ≤ wr.heap.size) (fun iv _ _ => ws.length - (intOf iv).toNat)
    case atStart => exact ⟨0, [], by omega, Lib.hid rfl, rfl, Lib.hid rfl, Lib.hid (World.ownsRow_nil _ _ _ _), Lib.hid (Below.refl _ _), hs1⟩
    case round =>
      obtain ⟨k, acc, hk, hak, rfl, hnum, hown, hbel, hsz⟩ := hrel
      have hal : acc.length ≤ 9001 := by have := hak.out; omega
      by_cases hlt : k < ws.length
      · have hc := HC.out k ws[k] (List.getElem?_eq_getElem hlt)
        rw [← hbel.out.cell (show B < B + 1 by omega), Nat.zero_add] at hc
        have HN := Lib.hid (nums_words HL.out hnum.out hlt)
        generalize ws[k] = u at *
        go_wp2_with fail
        refine (number_any u _).mono ?_
        rintro e w' ⟨rfl, rfl⟩
        cases hv : numL u.data.toList with
        | none =>
          rw [numV_none hv]
          have HR := Lib.hid (parseV_none HD.out (HN.out.1 hv))
          clear hv
          go_wp2_with fail
          go_ret2
          rw [HP.out, HR.out]
          exact gives_nil rfl (by rw [← HB.out]; exact HB1.out.trans (hbel.out.mono (by omega)))
        | some n =>
          rw [numV_some hv]
          have HR := Lib.hid (HN.out.2 n hv)
          clear hv
          go_wp2_with (at_builtin; refine wpList_append_own _ rfl _ _ 22 rfl (B + 1) 2 i0 (.int .i64 0) 1 8 Tryd.underlying22 HI0.out.1 HI0.out.2.1 HI0.out.2.2.1 HI0.out.2.2.2 rfl (by decide) _ acc.length (acc.map (Value.int .i64)) rfl (hown.out.alloc _) ⟨_, 0, none⟩ 1 1 [.int .i64 n] rfl rfl ?c1 ?c2 ?c3 ?c4 ?c5 ?_)
          case c1 => exact CellsAt.all (by simp [CellsAt, go_sem])
          case c2 => simp [Value.oneCell']
          case c3 => simp only [maxLen]; omega
          case c4 => omega
          case c5 => simp; omega
          intro v2 w2 hown2 hgr _
          have hsz2 : B + 1 ≤ w2.heap.size := by have := hgr.size; simp at this; omega
          have hown3 := Lib.hid hown2
          have hbel2 := Lib.hid (((hbel.out).alloc hsz _).grown hgr (by simp; omega) (fun q hq => (hown.out.lt q hq).1))
          clear hown2 hgr hc
          go_wp2_with fail
          go_roundw
          case rel => exact ⟨k + 1, acc ++ [n], by omega, Lib.hid (by simp [hak.out]), by go_num, HR, Lib.hid (by simpa using hown3.out), Lib.hid hbel2.out, hsz2⟩
          case measure => simp [intOf]; omega
      · have hkn : k = ws.length := by omega
        subst hkn
        rw [List.take_length, HL.out] at hnum
        obtain ⟨A2, c2, rfl, hi2, hc2, hm2⟩ := ints_of_own hown.out
        have HF := Lib.hid (And.intro hi2 (And.intro hc2 (And.intro hm2 (HB1.out.trans (hbel.out.mono (by omega))))))
        clear hi2 hc2 hm2 hown
        have HCK := Lib.hid (check_any A2 c2 acc wr HF.out.1 (by omega))
        cases h0 : (chkS acc == 0) with
        | false =>
          have h0' : (chkS acc != 0) = true := by simpa using h0
          have HR := Lib.hid (parseV_bad HD.out hnum.out (by simpa using h0))
          go_wp2_with fail
          refine (HCK.out).mono ?_
          rintro e w' ⟨rfl, rfl⟩
          go_wp2_with fail
          go_ret2
          rw [HP.out, HR.out]
          exact gives_nil rfl (by rw [← HB.out]; exact HF.out.2.2.2)
        | true =>
          have h00 : chkS acc = 0 := by simpa using h0
          have HR := Lib.hid (parseV_some HD.out hnum.out h00)
          rw [h00] at HCK
          clear h0 h00
          go_wp2_with fail
          refine (HCK.out).mono ?_
          rintro e w' ⟨rfl, rfl⟩
          go_wp2_with fail
          go_ret2
          rw [HP.out, HR.out]
          exact ⟨A2, c2, rfl, HF.out.1, HF.out.2.1, HF.out.2.2.1, by rw [← HB.out]; exact HF.out.2.2.2⟩
def RefInv (S : List UInt8) (a b : Nat) (acc : List Int) : Prop :=
  (a ≤ b ∧ b ≤ S.length ∧ ∃ d, wordsL S = d ++ wordsL (S.drop a) ∧ nums d = some acc ∧ 32 ∉ (S.drop a).take (b - a)) ∨ (b = S.length + 1 ∧ nums (wordsL S) = some acc)
theorem RefInv.start (S : List UInt8) : RefInv S 0 0 [] := .inl ⟨Nat.le_refl _, Nat.zero_le _, [], by simp, rfl, by simp⟩
theorem RefInv.step {S : List UInt8} {a b : Nat} {acc : List Int} (h : RefInv S a b acc) (hb : b < S.length) (hc : S[b] ≠ 32) : RefInv S a (b + 1) acc := by
  rcases h with ⟨h1, h2, d, h3, h4, h5⟩ | ⟨h1, h2⟩
  · refine .inl ⟨by omega, by omega, d, h3, h4, ?_⟩
    have hl : b - a < (S.drop a).length := by rw [List.length_drop]; omega
    rw [show b + 1 - a = b - a + 1 by omega, List.take_succ_eq_append_getElem hl, List.mem_append]
    rintro (hm | hm)
    · exact h5 hm
    · have e : (S.drop a)[b - a] = S[b] := by rw [List.getElem_drop]; congr 1; omega
      rw [e, List.mem_singleton] at hm
      exact hc hm.symm
  · omega
theorem RefInv.word {S : List UInt8} {a b : Nat} {acc : List Int} (h : RefInv S a b acc) (hb : b ≤ S.length) (hc : ∀ h : b < S.length, S[b] = 32) :
    a ≤ b ∧ (numL ((S.drop a).take (b - a)) = none → nums (wordsL S) = none) ∧ ∀ n, numL ((S.drop a).take (b - a)) = some n → RefInv S (b + 1) (b + 1) (acc ++ [n]) := by
  rcases h with ⟨h1, h2, d, h3, h4, h5⟩ | ⟨h1, h2⟩
  · refine ⟨h1, ?_⟩
    by_cases hl : b < S.length
    · have hcut : S.drop a = (S.drop a).take (b - a) ++ 32 :: S.drop (b + 1) := by
        have e := List.take_append_drop (b - a) (S.drop a)
        rw [List.drop_drop, show a + (b - a) = b by omega, List.drop_eq_getElem_cons hl, hc hl] at e
        exact e.symm
      have hw : wordsL (S.drop a) = (S.drop a).take (b - a) :: wordsL (S.drop (b + 1)) := by
        have := wordsL_cut (v := S.drop (b + 1)) h5
        rwa [← hcut] at this
      rw [hw] at h3
      refine ⟨fun hn => by rw [h3]; exact nums_bad hn, fun n hn => .inl ⟨Nat.le_refl _, by omega, d ++ [(S.drop a).take (b - a)], by rw [h3]; simp, nums_app h4 (nums_one hn), by simp⟩⟩
    · have hl : b = S.length := by omega
      subst hl
      have ht : (S.drop a).take (S.length - a) = S.drop a := List.take_of_length_le (by rw [List.length_drop]; exact Nat.le_refl _)
      rw [ht] at h5 ⊢
      rw [wordsL_no h5] at h3
      exact ⟨fun hn => by rw [h3]; exact nums_bad hn, fun n hn => .inr ⟨rfl, by rw [h3]; exact nums_app h4 (nums_one hn)⟩⟩
  · omega
theorem RefInv.fin {S : List UInt8} {a b : Nat} {acc : List Int} (h : RefInv S a b acc) (hb : S.length < b) : nums (wordsL S) = some acc := by
  rcases h with ⟨h1, h2, d, h3, h4, h5⟩ | ⟨h1, h2⟩
  · omega
  · exact h2
theorem getB (s : ByteArray) {k : Nat} (hk : k < s.size) (hk' : k < s.data.toList.length) : s.data.toList[k] = s[k] := rfl
set_option maxHeartbeats 1000000 in
theorem parser_any (s : ByteArray) (w : World) (hs : s.size ≤ 9000) :
    Calls Tryd.prog 28 #[.string s] w fun e w' => GivesP w (parseV s.data.toList).1 (parseV s.data.toList).2 e w' := by
  by_cases hd : s = ⟨#[45]⟩
  · subst hd
    go_enter Tryd.func28, Tryd.ntmps28
    go_wp2_with fail
    go_ret2
    exact gives_nil rfl (Below.refl _ _)
  · have hdb : (s.toList == [45]) = false := by
      rw [beq_eq_false_iff_ne, Lib.toList_data]
      exact dash_no hd
    have HD := Lib.hid (dash_no hd)
    obtain ⟨P, hP⟩ : ∃ P, P = parseV s.data.toList := ⟨_, rfl⟩
    rw [← hP]
    have HP := Lib.hid hP
    have HLN := Lib.hid (len_data s)
    obtain ⟨B, hB⟩ : ∃ B, B = w.heap.size := ⟨_, rfl⟩
    have HB := Lib.hid hB
    obtain ⟨i0, hi, hz0, hz1, hz2⟩ := info_parts i2
    have HI0 := Lib.hid (And.intro hi (And.intro hz0 (And.intro hz1 hz2)))
    clear hi hz0 hz1 hz2 hd hP hB
    go_enter Tryd.func28, Tryd.ntmps28
    go_wp2_with fail
    go_loopw [4, 5, 6] (fun v f i wr => ∃ (a b : Nat) (acc : List Int), b ≤ s.size + 1 ∧ acc.length ≤ b ∧ f = .int .i64 a ∧ i = .int .i64 b ∧ Hid (RefInv s.data.toList a b acc) ∧ Hid (wr.ownsRow B 2 1 v acc.length (acc.map (Value.int .i64))) ∧ Hid (Below B w wr) ∧ B ≤ wr.heap.size) (fun _ _ i _ => s.size + 1 - (intOf i).toNat)
    case atStart => exact ⟨0, 0, [], by omega, by simp, rfl, rfl, Lib.hid (RefInv.start _), Lib.hid (World.ownsRow_nil _ _ _ _), Lib.hid (Below.refl _ _), by rw [HB.out]; exact Nat.le_refl _⟩
    case round =>
      obtain ⟨a, b, acc, hb, hal, rfl, rfl, hinv, hown, hbel, hsz⟩ := hrel
      have step : ∀ (hc : ∀ h : b < s.size, s[b] = 32), b ≤ s.size → a ≤ b ∧ (numL (s.extract a b).data.toList = none → nums (wordsL s.data.toList) = none) ∧ ∀ n, numL (s.extract a b).data.toList = some n → RefInv s.data.toList (b + 1) (b + 1) (acc ++ [n]) := by
        intro hc hbl
        have := hinv.out.word (by rw [HLN.out]; exact hbl) (fun h => (getB s (by rw [HLN.out] at h; exact h) h).trans (hc (by rw [HLN.out] at h; exact h)))
        have e : (s.extract a b).data.toList = (s.data.toList.drop a).take (b - a) := by
          rw [ByteArray.data_extract, Array.toList_extract, List.extract_eq_take_drop]
        rw [e]
        exact this
      by_cases hlt : b < s.size
      · by_cases hc : s[b].toNat = 32
        · have hc' : (((s[b].toNat : Nat) : Int) != 32) = false := by rw [hc]; rfl
          obtain ⟨hab, st⟩ := step (fun _ => UInt8.toNat_inj.1 hc) (by omega)
          have ST := Lib.hid st
          clear hc st step
          go_wp2_with fail
          refine (numberr_any (s.extract a b) _).mono ?_
          rintro e w' ⟨rfl, rfl⟩
          cases hv : numL (s.extract a b).data.toList with
          | none =>
            rw [numV_none hv]
            have HR := Lib.hid (parseV_none HD.out (ST.out.1 hv))
            clear hv
            go_wp2_with fail
            go_ret2
            rw [HP.out, HR.out]
            exact gives_nil rfl (by rw [← HB.out]; exact hbel.out)
          | some n =>
            rw [numV_some hv]
            have HR := Lib.hid (ST.out.2 n hv)
            clear hv
            go_wp2_with (at_builtin; refine wpList_append_own _ rfl _ _ 22 rfl B 2 i0 (.int .i64 0) 1 8 Tryd.underlying22 HI0.out.1 HI0.out.2.1 HI0.out.2.2.1 HI0.out.2.2.2 rfl (by decide) _ acc.length (acc.map (Value.int .i64)) rfl (hown.out.alloc _) ⟨_, 0, none⟩ 1 1 [.int .i64 n] rfl rfl ?c1 ?c2 ?c3 ?c4 ?c5 ?_)
            case c1 => exact CellsAt.all (by simp [CellsAt, go_sem])
            case c2 => simp [Value.oneCell']
            case c3 => simp only [maxLen]; omega
            case c4 => omega
            case c5 => simp; omega
            intro v2 w2 hown2 hgr _
            have hsz2 : B ≤ w2.heap.size := by have := hgr.size; simp at this; omega
            have hown3 := Lib.hid hown2
            have hbel2 := Lib.hid (((hbel.out).alloc hsz _).grown hgr (by simp; omega) (fun q hq => (hown.out.lt q hq).1))
            clear hown2 hgr
            go_wp2_with fail
            go_roundw
            case rel => exact ⟨b + 1, b + 1, acc ++ [n], by omega, by simp; omega, by go_num, by go_num, HR, Lib.hid (by simpa using hown3.out), Lib.hid hbel2.out, hsz2⟩
            case measure => simp [intOf]; omega
        · have hc' : (((s[b].toNat : Nat) : Int) != 32) = true := by simp; omega
          have ST := Lib.hid (hinv.out.step (by rw [HLN.out]; exact hlt) (fun e => hc (by rw [getB s hlt] at e; rw [e]; rfl)))
          clear hc step
          go_wp2_with fail
          go_roundw
          case rel => exact ⟨a, b + 1, acc, by omega, by omega, rfl, by go_num, ST, hown, hbel, hsz⟩
          case measure => simp [intOf]; omega
      · by_cases hbs : b ≤ s.size
        · obtain ⟨hab, st⟩ := step (fun h => by omega) (by omega)
          have ST := Lib.hid st
          clear st step
          go_wp2_with fail
          refine (numberr_any (s.extract a b) _).mono ?_
          rintro e w' ⟨rfl, rfl⟩
          cases hv : numL (s.extract a b).data.toList with
          | none =>
            rw [numV_none hv]
            have HR := Lib.hid (parseV_none HD.out (ST.out.1 hv))
            clear hv
            go_wp2_with fail
            go_ret2
            rw [HP.out, HR.out]
            exact gives_nil rfl (by rw [← HB.out]; exact hbel.out)
          | some n =>
            rw [numV_some hv]
            have HR := Lib.hid (ST.out.2 n hv)
            clear hv
            go_wp2_with (at_builtin; refine wpList_append_own _ rfl _ _ 22 rfl B 2 i0 (.int .i64 0) 1 8 Tryd.underlying22 HI0.out.1 HI0.out.2.1 HI0.out.2.2.1 HI0.out.2.2.2 rfl (by decide) _ acc.length (acc.map (Value.int .i64)) rfl (hown.out.alloc _) ⟨_, 0, none⟩ 1 1 [.int .i64 n] rfl rfl ?c1 ?c2 ?c3 ?c4 ?c5 ?_)
            case c1 => exact CellsAt.all (by simp [CellsAt, go_sem])
            case c2 => simp [Value.oneCell']
            case c3 => simp only [maxLen]; omega
            case c4 => omega
            case c5 => simp; omega
            intro v2 w2 hown2 hgr _
            have hsz2 : B ≤ w2.heap.size := by have := hgr.size; simp at this; omega
            have hown3 := Lib.hid hown2
            have hbel2 := Lib.hid (((hbel.out).alloc hsz _).grown hgr (by simp; omega) (fun q hq => (hown.out.lt q hq).1))
            clear hown2 hgr
            go_wp2_with fail
            go_roundw
            case rel => exact ⟨b + 1, b + 1, acc ++ [n], by omega, by simp; omega, by go_num, by go_num, HR, Lib.hid (by simpa using hown3.out), Lib.hid hbel2.out, hsz2⟩
            case measure => simp [intOf]; omega
        · have HF := Lib.hid (hinv.out.fin (by rw [HLN.out]; omega))
          obtain ⟨A2, c2, rfl, hi2, hc2, hm2⟩ := ints_of_own hown.out
          have HFI := Lib.hid (And.intro hi2 (And.intro hc2 (And.intro hm2 hbel.out)))
          clear hi2 hc2 hm2 hown step
          have HCK := Lib.hid (checkr_any A2 c2 acc wr HFI.out.1 (by omega))
          cases h0 : (chkS acc == 0) with
          | false =>
            have h0' : (chkS acc != 0) = true := by simpa using h0
            have HR := Lib.hid (parseV_bad HD.out HF.out (by simpa using h0))
            go_wp2_with fail
            refine (HCK.out).mono ?_
            rintro e w' ⟨rfl, rfl⟩
            go_wp2_with fail
            go_ret2
            rw [HP.out, HR.out]
            exact gives_nil rfl (by rw [← HB.out]; exact HFI.out.2.2.2)
          | true =>
            have h00 : chkS acc = 0 := by simpa using h0
            have HR := Lib.hid (parseV_some HD.out HF.out h00)
            rw [h00] at HCK
            clear h0 h00
            go_wp2_with fail
            refine (HCK.out).mono ?_
            rintro e w' ⟨rfl, rfl⟩
            go_wp2_with fail
            go_ret2
            rw [HP.out, HR.out]
            exact ⟨A2, c2, rfl, HFI.out.1, HFI.out.2.1, HFI.out.2.2.1, by rw [← HB.out]; exact HFI.out.2.2.2⟩
end Go.Proofs.YtnnhbnkelgmaaaaDoor
