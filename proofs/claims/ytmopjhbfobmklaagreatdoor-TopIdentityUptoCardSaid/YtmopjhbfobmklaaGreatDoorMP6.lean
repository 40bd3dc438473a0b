/-
  The contract of Screen and Same, and what the screens of a conformed document are. Their conditions are their hypotheses.
-/
import Derived.Test.YtmopjhbfobmklaaGreatDoorMP5
set_option maxRecDepth 100000
set_option maxHeartbeats 40000000
namespace Go.Proofs.YtmopjhbfobmklaaGreatDoor
open Go.RowKit Go.Joins
set_option linter.unusedVariables false
set_option linter.unusedSimpArgs false
theorem same_any (v1 v2 : Value) (X Y : List Gl) (w : World) (h1 : GlsAt w v1 X) (h2 : GlsAt w v2 Y) (hl : X.length ≤ 1000000) :
  Calls Tryz.prog 17 #[v1, v2] w fun e w' => e = .returned (.bool (decide (X = Y))) ∧ Below w.heap.size w w' := by
 have HE := ι (equal_any v1 v2 X Y w h1 h2 hl)
 generalize decide (X = Y) = q at *
 clear h1 h2
 go_enter Tryz.func17, Tryz.ntmps17
 go_wp2_with fail
 refine HE.out.mono ?_
 rintro e w1 ⟨rfl, hb⟩
 have B := ι hb
 clear hb
 go_wp2_with fail
 go_ret
 exact ⟨rfl, B.out⟩
theorem grid_at (regs : List Rg) (E : List Ev) (f : Int) : ∀ (t : List Ev) (k : Nat) (G : List Gl), E.drop k = t →
  (idxF f k t).foldl (fun G i => match E[i]? with | some x => putG G (evG regs x) | none => G) G = (atE f t).foldl (fun G x => putG G (evG regs x)) G
 | [], _, _, _ => rfl
 | x :: t, k, G, h => by
  have hk : E[k]? = some x := by
   have := congrArg (·[0]?) h
   simpa using this
  have ht : E.drop (k + 1) = t := by
   have := congrArg (List.drop 1) h
   simpa [List.drop_drop, Nat.add_comm] using this
  rw [idxF, List.foldl_append]
  unfold atE
  by_cases hx : x.i ≤ f ∧ f < x.o
  ·rw [if_pos hx, List.filter_cons_of_pos (atB_iff.2 hx)]
   simp only [List.foldl_cons, List.foldl_nil]
   rw [hk]
   exact grid_at regs E f t (k + 1) _ ht
  rw [if_neg hx, List.filter_cons_of_neg (fun e => hx (atB_iff.1 e))]
  exact grid_at regs E f t (k + 1) _ ht
theorem scr_lk (regs : List Rg) (E : List Ev) (f : Int) : scrV regs E f = scrL ((lkA f E).foldl (fun G p => putG G (plcV (findV regs p.1).1 p.2)) grid0) := by
 have h1 : scrV regs E f = scrL ((atE f E).foldl (fun G x => putG G (evG regs x)) grid0) := congrArg scrL (grid_at regs E f E 0 grid0 rfl)
 rw [h1]
 unfold lkA
 rw [List.foldl_map]
 rfl
theorem fold_same {R S : List Rg} : ∀ {P : List (List UInt8 × List (List Rn))} {G : List Gl}, (∀ p ∈ P, findV R p.1 = findV S p.1) → P.foldl (fun G p => putG G (plcV (findV R p.1).1 p.2)) G = P.foldl (fun G p => putG G (plcV (findV S p.1).1 p.2)) G
 | [], _, _ => rfl
 | p :: t, G, h => by
  rw [List.foldl_cons, List.foldl_cons, h p (List.mem_cons_self ..)]
  exact fold_same (fun q hq => h q (List.mem_cons_of_mem _ hq))
theorem scr_nil (regs : List Rg) {E : List Ev} {f : Int} (h : lkA f E = []) : scrV regs E f = [] := by
 rw [scr_lk, h]
 show scrL grid0 = []
 unfold scrL grid0
 rw [List.filter_eq_nil_iff]
 intro g hg
 rw [(List.mem_replicate.1 hg).2]
 decide
theorem lkA_mem {f : Int} {E : List Ev} {p : List UInt8 × List (List Rn)} (h : p ∈ lkA f E) : ∃ x ∈ E, p = lkE x := by
 unfold lkA atE at h
 obtain ⟨x, hx, rfl⟩ := List.mem_map.1 h
 exact ⟨x, (List.mem_filter.1 hx).1, rfl⟩
theorem docL_in {nm : List UInt8} : ∀ {l : List Rd}, (docL nm l).2 = true → ∃ x ∈ l, x.reel = nm ∧ docL nm l = (x.doc, true)
 | [], h => by cases h
 | x :: t, h => by
  unfold docL at *
  by_cases hx : x.reel = nm
  ·rw [if_pos hx]
   exact ⟨x, List.mem_cons_self .., hx, rfl⟩
  rw [if_neg hx] at h ⊢
  obtain ⟨y, hy, h1, h2⟩ := docL_in h
  exact ⟨y, List.mem_cons_of_mem _ hy, h1, h2⟩
theorem docL_no {nm : List UInt8} : ∀ {l : List Rd}, (docL nm l).2 = false → docL nm l = (dc0, false)
 | [], _ => rfl
 | x :: t, h => by
  unfold docL at *
  by_cases hx : x.reel = nm
  ·rw [if_pos hx] at h
   cases h
  rw [if_neg hx] at h ⊢
  exact docL_no h
theorem conf_scr {l : List Rd} {d : Lst} (h : ConfOk l d) {ys : List Rg} (hp : ys.Perm (regsL l)) (f : Int) :
  ((atG d f).2.2 = true → (docL (atG d f).1 l).2 = true → scrV ys (evsA (rawP l d)) f = scrV (docL (atG d f).1 l).1.regs (docL (atG d f).1 l).1.evs (atG d f).2.1 ∧ dcE (docL (atG d f).1 l).1 = 0 ∧ 0 ≤ (atG d f).2.1 ∧ (atG d f).2.1 ≤ 5184000) ∧
  ((atG d f).2.2 = false ∨ (docL (atG d f).1 l).2 = false → scrV ys (evsA (rawP l d)) f = []) := by
 have hr := raw_lk h f
 refine ⟨fun h1 h2 => ?_, fun h1 => ?_⟩
 ·obtain ⟨x, hx, hxn, hd⟩ := docL_in h2
  obtain ⟨k, hk⟩ := List.getElem?_of_mem hx
  rw [if_pos h1] at hr
  have e1 : docE l (atG d f).1 = x.doc.evs := by unfold docE; rw [hd]
  rw [e1] at hr
  refine ⟨?_, by rw [hd]; exact (h.docs k x hk).2.2.1, ?_⟩
  ·rw [hd, scr_lk, scr_lk, hr]
   congr 1
   refine fold_same (fun p hp2 => ?_)
   obtain ⟨e, he, rfl⟩ := lkA_mem hp2
   exact find_all h hp hx (evE_find (dcE_ev (h.docs k x hk).2.2.1 e he))
  have e2 : atG d f = atL f d.cuts := by unfold atG; rw [if_pos h.lst]
  have ho := (lst_ok h.lst).1
  rw [e2] at h1 ⊢
  obtain ⟨c, hc, c1, c2, _, c4⟩ := (atL_led ho f _ _).1 ⟨h1, rfl, rfl⟩
  have g := ho.cut c hc
  obtain ⟨b1, b2⟩ := led_bd g c1 c2
  have := g.la
  have := g.s0
  rw [c4]
  omega
 refine scr_nil ys ?_
 rw [hr]
 rcases h1 with h1 | h1
 ·rw [if_neg (by rw [h1]; decide)]
 split
 ·unfold docE
  rw [docL_no h1]
  rfl
 rfl
theorem conf_dcok {l : List Rd} {d : Lst} (h : ConfOk l d) (hdo : RdsOk l) (hlo : LsOk d) (hn : (rawP l d).length ≤ 400) {ys : List Rg} (hp : ys.Perm (regsL l)) : DcOk ⟨d.title, langL [] 0 l, d.rate, d.drop, (rawP l d).length, ys, evsA (rawP l d), []⟩ := by
 refine ⟨hlo.title, hlo.rate, ?_, ?_, by simp, fun x hx => ?_, fun c hc => by cases hc⟩
 ·show ys.length ≤ _
  have := hp.length_eq
  have := h.rlen
  omega
 ·show (evsA (rawP l d)).length ≤ _
  rw [evsA_len]
  omega
 obtain ⟨p, hp2, rfl⟩ : ∃ p ∈ rawP l d, p.2 = x := by
  have hx2 : x ∈ (rawP l d).map (·.2) := hx
  obtain ⟨p, h1, h2⟩ := List.mem_map.1 hx2
  exact ⟨p, h1, h2⟩
 obtain ⟨r, hr, e, he, _, e2, _, e4⟩ := raw_from l d p hp2
 have := (hdo.docs r hr).evs e he
 rw [e2, e4]
 exact this
end Go.Proofs.YtmopjhbfobmklaaGreatDoor
