/-
  The contracts of Spots of events, of place of the display and of At of documents. Their conditions are their hypotheses.
-/
import Derived.Test.YtmopjhbfobmklaaGreatDoorMP1
import Derived.Test.YtmopjhbfobmklaaGreatDoorMD4
set_option maxRecDepth 100000
set_option maxHeartbeats 40000000
namespace Go.Proofs.YtmopjhbfobmklaaGreatDoor
open Go.RowKit Go.Joins
set_option linter.unusedVariables false
set_option linter.unusedSimpArgs false
def SpotsP (L : List Sp) (w : World) (e : Ending) (w' : World) : Prop := (∃ A c, e = .returned (.tuple #[.slice A L.length c, .int .i64 0]) ∧ SeqAt w' 3 (Flat Sp.cs) (.slice A L.length c) L) ∧ Below w.heap.size w w'
theorem plF_zero {wd : Int} : ∀ {L : List Int}, plF wd L = 0 → ∀ n ∈ L, 0 ≤ n ∧ n ≤ wd
 | [], _, n, hn => by cases hn
 | a :: t, h, n, hn => by
  unfold plF at h
  split at h
  ·exact absurd h (by decide)
  split at h
  ·exact absurd h (by decide)
  rcases List.mem_cons.1 hn with rfl | hn
  ·omega
  exact plF_zero h n hn
theorem plE_zero {r : Rg} {L : List Int} (h : plE r L = 0) : usB r = true ∧ (L.length : Int) ≤ r.hei ∧ ∀ n ∈ L, 0 ≤ n ∧ n ≤ r.wid := by
 unfold plE at h
 split at h
 ·exact absurd h (by decide)
 rename_i h1
 split at h
 ·exact absurd h (by decide)
 exact ⟨by simpa using h1, by omega, plF_zero h⟩
theorem evE_place {x : Ev} {regs : List Rg} (h : evE x regs = 0) : (findV regs x.reg).2 = true ∧ plE (findV regs x.reg).1 (lensV x.rows) = 0 := by
 unfold evE at h
 split at h
 ·exact absurd h (by decide)
 split at h
 ·exact absurd h (by decide)
 rename_i h2
 split at h
 ·exact absurd h (by decide)
 split at h
 ·exact absurd h (by decide)
 split at h
 ·exact absurd h (by decide)
 split at h
 ·exact ⟨by simpa using h2, h⟩
 rename_i h3; exact absurd h h3
theorem spV_len2 (r : Rg) (L : List Int) : (spV' r L).length = L.length := spF_len _ _ _ _
theorem spots_any (x : Ev) (rv v : Value) (regs : List Rg) (w : World) (h : RowsAt w rv x.rows) (hl : SmlR x.rows) (hg : RegsAt w v regs) (hgl : regs.length ≤ 1000) (h0 : evE x regs = 0) (hw : Wt w) :
  Calls Tryz.prog 114 #[x.v rv, v] w (SpotsP (spV' (findV regs x.reg).1 (lensV x.rows)) w) := by
 obtain ⟨A, c, rfl⟩ := h.form
 obtain ⟨A1, c1, rfl⟩ := hg.form
 obtain ⟨hf, hp⟩ := evE_place h0
 have HLE := ι (fun W (hb : Below w.heap.size w W) => lens_any x _ W (SeqAt.ext h RowC.stays hb) hl (hw.on hb))
 have HFI := ι (fun W (hb : Below w.heap.size w W) => find_any _ regs x.reg W (SeqAt.ext hg (Flat.stays _) hb) hgl)
 obtain ⟨hu, hh, hn⟩ := plE_zero hp
 obtain ⟨L, hL⟩ : ∃ L, L = lensV x.rows := ⟨_, rfl⟩
 obtain ⟨F, hF⟩ : ∃ F, F = findV regs x.reg := ⟨_, rfl⟩
 rw [← hL] at HLE hp hh hn ⊢
 rw [← hF] at HFI hp hf hu hh hn ⊢
 have hll : L.length ≤ 4 := by
  obtain ⟨_, _, h3, _⟩ := evE_zero h0
  rw [hL]
  unfold lensV
  rw [List.length_map]
  exact h3.2
 obtain ⟨fr, fb⟩ := F
 dsimp only at hf hp hu hh hn ⊢
 subst hf
 have HP := ι hp
 have HN := ι hn
 obtain ⟨id, i, o, reg, kind, spk, rows⟩ := x
 unfold Ev.v at HLE ⊢
 dsimp only at HLE HFI ⊢
 clear h hl hg h0 hw hL hF hu hh hn hp
 unfold LensP at *
 have HPL := ι (show ∀ (A4 : Option Addr) (c4 : Nat) (W : World), IntsAt W A4 L → Calls Tryz.prog 84 #[fr.v, .slice A4 L.length c4] W (SpotsP (spV' fr L) W) from fun A4 c4 W hi => by
  refine (place_reg fr A4 c4 L W hi (by omega)).mono ?_
  rintro e w5 ⟨hp, hb⟩
  rcases hp with ⟨hne, _⟩ | ⟨_, A5, c5, rfl, hs⟩
  ·exact absurd HP.out hne
  unfold SpotsP
  have e := spV_len2 fr L
  exact ⟨⟨A5, c5, by rw [e], by rw [e]; exact hs⟩, hb⟩)
 generalize spV' fr L = S at *
 unfold SpotsP at *
 unfold Rg.v at HFI HPL
 obtain ⟨G, hG⟩ : ∃ G, G = w.heap.size := ⟨_, rfl⟩
 have HG := ι hG
 go_enter Tryz.func114, Tryz.ntmps114
 go_wp2_with fail
 rw [← hG]
 generalize hw1 : World.alloc w _ = w1
 have F1 := ι (show Held w1 G ((⟨id, i, o, reg, kind, spk, rows⟩ : Ev).cs (.slice A rows.length c)) by subst hw1; exact Held.new hG)
 have B1 := ι (show Below w.heap.size w w1 by subst hw1; exact Below.more' _ _)
 clear hw1 hG
 refine (HFI.out w1 B1.out).mono ?_
 rintro e w2 ⟨rfl, hb⟩
 have F2 := ι (F1.out.ext hb)
 have B2 := ι (B1.out.trans (hb.mono B1.out.size))
 clear hb F1 B1 HFI
 have q := F2.out.cell
 have hG2 : G < w2.heap.size := F2.out.lt
 unfold Ev.cs at q
 go_wp2_with fail
 clear q
 generalize hw3 : World.alloc w2 _ = w3
 have R3 := ι (show Held w3 w2.heap.size fr.cs by subst hw3; exact Held.new rfl)
 have F3 := ι (show Held w3 G ((⟨id, i, o, reg, kind, spk, rows⟩ : Ev).cs (.slice A rows.length c)) by subst hw3; exact F2.out.alloc _)
 have B3 := ι (show Below w.heap.size w w3 by subst hw3; exact B2.out.trans ((Below.more' _ _).mono B2.out.size))
 clear hw3 F2 B2
 refine (HLE.out w3 B3.out).mono ?_
 rintro e w4 ⟨⟨A4, c4, rfl, hi4, _, _⟩, hb⟩
 have R4 := ι (R3.out.ext hb)
 have B4 := ι (B3.out.trans (hb.mono B3.out.size))
 have HI4 := ι hi4
 clear hb R3 F3 B3 HLE hi4
 go_wp2_with fail
 go_loopw [24] (fun kv wr => ∃ k : Nat, kv = .int .i64 k ∧ k ≤ L.length ∧ Hid (Below w4.heap.size w4 wr)) (fun kv _ => L.length - (intOf kv).toNat)
 case atStart => exact ⟨0, rfl, Nat.zero_le _, ι (Below.refl _ _)⟩
 case round =>
 obtain ⟨k, rfl, hk, BR⟩ := hrel
 by_cases hlt : k < L.length
 ·have hlt2 : (k : Int) < (L.length : Int) := by omega
  obtain ⟨n, hx⟩ : ∃ n, L[k]? = some n := ⟨_, List.getElem?_eq_getElem hlt⟩
  have hn0 := (HN.out n (List.mem_of_getElem? hx)).1
  obtain ⟨b, o2, hA, hc⟩ := (HI4.out.ext BR.out) k (.int .i64 n) (by rw [List.getElem?_map, hx]; rfl)
  subst hA
  have tn : decide (n < 0) = false := by simp; omega
  clear hx
  go_wp2_with fail
  go_roundw
  case rel => exact ⟨k + 1, by go_num, by omega, BR⟩
  case measure => simp [intOf]; omega
 obtain rfl : k = L.length := by omega
 clear hlt
 have RR := ι (R4.out.ext BR.out)
 have q := RR.out.cell
 unfold Rg.cs at q
 go_wp2_with fail
 clear q
 refine (HPL.out A4 c4 wr (HI4.out.ext BR.out)).mono ?_
 rintro e w5 ⟨⟨A5, c5, rfl, hs⟩, hb⟩
 have HS := ι hs
 have B5 := ι (B4.out.trans ((BR.out.trans (hb.mono BR.out.size)).mono B4.out.size))
 clear hs hb
 go_wp2_with fail
 go_ret2
 exact ⟨⟨A5, c5, rfl, HS.out⟩, B5.out⟩
structure Gl where
 row : Int
 col : Int
 ch : Int
 co : Int
 it : Bool
 un : Bool
def Gl.cs (x : Gl) : List Value := [.int .i64 x.row, .int .i64 x.col, .int .i32 x.ch, .int .u8 x.co, .bool x.it, .bool x.un]
abbrev Gl.v (x : Gl) : Value := .agg #[.int .i64 x.row, .int .i64 x.col, .int .i32 x.ch, .int .u8 x.co, .bool x.it, .bool x.un]
def glO (s : Sp) (l : List Rn) (k : Nat) : List Gl :=
 if (atR l k).2.2 = true ∧ (atR l k).1 ≠ 32 then [⟨s.row, s.col + k, (atR l k).1, (atR l k).2.1.co, (atR l k).2.1.it, (atR l k).2.1.un⟩] else []
def glK (s : Sp) (l : List Rn) (n : Nat) : List Gl := (List.range n).flatMap (glO s l)
theorem glK_step (s : Sp) (l : List Rn) (n : Nat) : glK s l (n + 1) = glK s l n ++ glO s l n := by
 unfold glK
 rw [List.range_succ, List.flatMap_append]
 simp
theorem glO_len (s : Sp) (l : List Rn) (k : Nat) : (glO s l k).length ≤ 1 := by unfold glO; split <;> simp
theorem glK_len (s : Sp) (l : List Rn) : ∀ n, (glK s l n).length ≤ n
 | 0 => Nat.le_refl _
 | n + 1 => by
  rw [glK_step, List.length_append]
  have := glK_len s l n
  have := glO_len s l n
  omega
def plcR : List Sp → List (List Rn) → List Gl
 | s :: t, r :: q => glK s r s.len.toNat ++ plcR t q
 | _, _ => []
theorem plcR_step : ∀ {S : List Sp} {Q : List (List Rn)} {k : Nat} {s : Sp} {r : List Rn}, S[k]? = some s → Q[k]? = some r → plcR (S.take (k + 1)) (Q.take (k + 1)) = plcR (S.take k) (Q.take k) ++ glK s r s.len.toNat
 | [], _, _, _, _, h, _ => by simp at h
 | _ :: _, [], _, _, _, _, h => by simp at h
 | a :: t, b :: q, 0, s, r, h1, h2 => by
  cases h1; cases h2
  simp [plcR]
 | a :: t, b :: q, k + 1, s, r, h1, h2 => by
  rw [List.getElem?_cons_succ] at h1 h2
  rw [List.take_succ_cons, List.take_succ_cons, List.take_succ_cons, List.take_succ_cons]
  show glK a b a.len.toNat ++ plcR (t.take (k + 1)) (q.take (k + 1)) = (glK a b a.len.toNat ++ plcR (t.take k) (q.take k)) ++ _
  rw [plcR_step h1 h2, List.append_assoc]
theorem plcR_len {m : Nat} : ∀ (S : List Sp) (Q : List (List Rn)), (∀ s ∈ S, s.len.toNat ≤ m) → (plcR S Q).length ≤ S.length * m
 | [], Q, _ => by simp [plcR]
 | s :: t, [], _ => by simp [plcR]
 | s :: t, r :: q, h => by
  show (glK s r s.len.toNat ++ plcR t q).length ≤ _
  have h1 := glK_len s r s.len.toNat
  have h2 := h s (List.mem_cons_self ..)
  have h3 := plcR_len t q (fun x hx => h x (List.mem_cons_of_mem _ hx))
  rw [List.length_append, List.length_cons, Nat.succ_mul]
  omega
def plcV (r : Rg) (rows : List (List Rn)) : List Gl := plcR (spV' r (lensV rows)) rows
theorem spF_get (r : Rg) (top : Int) : ∀ {L : List Int} {i k : Nat} {s : Sp}, (spF r top i L)[k]? = some s → ∃ n, L[k]? = some n ∧ s = ⟨top + (i + k : Nat), colV r n, n⟩
 | [], _, _, _, h => by simp [spF] at h
 | a :: t, i, 0, s, h => by
  cases h
  exact ⟨a, rfl, rfl⟩
 | a :: t, i, k + 1, s, h => by
  unfold spF at h
  rw [List.getElem?_cons_succ] at h
  obtain ⟨n, h1, h2⟩ := spF_get r top h
  exact ⟨n, by rw [List.getElem?_cons_succ]; exact h1, by rw [h2, show i + 1 + k = i + (k + 1) by omega]⟩
theorem spot_in {r : Rg} {L : List Int} (h : plE r L = 0) {k : Nat} {s : Sp} (hs : (spV' r L)[k]? = some s) : (0 ≤ s.row ∧ s.row ≤ 14) ∧ 0 ≤ s.col ∧ 0 ≤ s.len ∧ s.col + s.len ≤ 32 := by
 obtain ⟨hu, hh, hn⟩ := plE_zero h
 obtain ⟨⟨a1, a2⟩, ⟨a3, a4⟩, ⟨a5, a6⟩, ⟨a7, a8⟩, a9, a10⟩ := us_range hu
 obtain ⟨n, h1, rfl⟩ := spF_get r _ hs
 obtain ⟨n0, n1⟩ := hn n (List.mem_of_getElem? h1)
 have hk : k < L.length := (List.getElem?_eq_some_iff.1 h1).1
 refine ⟨?_, ?_, n0, ?_⟩
 ·unfold topV
  simp only []
  split <;> omega
 ·unfold colV
  simp only []
  split
  ·omega
  split <;> omega
 unfold colV
 simp only []
 split
 ·omega
 split <;> omega
theorem glK_in {s : Sp} {l : List Rn} {n : Nat} (h : (0 ≤ s.row ∧ s.row ≤ 14) ∧ 0 ≤ s.col ∧ s.col + n ≤ 32) : ∀ g ∈ glK s l n, (0 ≤ g.row ∧ g.row ≤ 14) ∧ 0 ≤ g.col ∧ g.col ≤ 31 := by
 intro g hg
 unfold glK at hg
 obtain ⟨k, hk, hg⟩ := List.mem_flatMap.1 hg
 have hkn := List.mem_range.1 hk
 unfold glO at hg
 split at hg
 ·rcases List.mem_singleton.1 hg with rfl
  exact ⟨h.1, by show 0 ≤ s.col + k; omega, by show s.col + k ≤ 31; omega⟩
 cases hg
theorem plcR_in : ∀ {S : List Sp} {Q : List (List Rn)}, (∀ s ∈ S, (0 ≤ s.row ∧ s.row ≤ 14) ∧ 0 ≤ s.col ∧ 0 ≤ s.len ∧ s.col + s.len ≤ 32) → ∀ g ∈ plcR S Q, (0 ≤ g.row ∧ g.row ≤ 14) ∧ 0 ≤ g.col ∧ g.col ≤ 31
 | [], _, _, g, hg => by simp [plcR] at hg
 | _ :: _, [], _, g, hg => by simp [plcR] at hg
 | s :: t, r :: q, h, g, hg => by
  rcases List.mem_append.1 hg with hg | hg
  ·obtain ⟨h1, h2, h3, h4⟩ := h s (List.mem_cons_self ..)
   exact glK_in ⟨h1, h2, by omega⟩ g hg
  exact plcR_in (fun x hx => h x (List.mem_cons_of_mem _ hx)) g hg
theorem plcV_in {r : Rg} {rows : List (List Rn)} (h : plE r (lensV rows) = 0) : ∀ g ∈ plcV r rows, (0 ≤ g.row ∧ g.row ≤ 14) ∧ 0 ≤ g.col ∧ g.col ≤ 31 :=
 plcR_in (fun s hs => by obtain ⟨k, hk⟩ := List.getElem?_of_mem hs; exact spot_in h hk)
end Go.Proofs.YtmopjhbfobmklaaGreatDoor
