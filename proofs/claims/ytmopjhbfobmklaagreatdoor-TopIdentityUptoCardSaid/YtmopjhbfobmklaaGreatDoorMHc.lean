/-
  What Conform's result is in memory, and facts on accepted documents and joined cuts. The conditions are the hypotheses.
-/
import Derived.Test.YtmopjhbfobmklaaGreatDoorMCh
import Derived.Test.YtmopjhbfobmklaaGreatDoorMCh8
import Derived.Test.YtmopjhbfobmklaaGreatDoorMAp
set_option maxRecDepth 100000
set_option maxHeartbeats 40000000
namespace Go.Proofs.YtmopjhbfobmklaaGreatDoor
open Go.RowKit Go.Joins
set_option linter.unusedVariables false
set_option linter.unusedSimpArgs false
theorem infoFt : (Tryz.prog.info? 48).map (fun i => (i.zero, i.size, i.bytes)) = some (some (.agg #[.string ⟨#[]⟩, .int .i64 0, .slice none 0 0, .int .i64 0, .slice none 0 0]), 5, 80) := by kernel_rfl
theorem infoI64 : (Tryz.prog.info? 2).map (fun i => (i.zero, i.size, i.bytes)) = some (some (.int .i64 0), 1, 8) := by kernel_rfl
theorem field_run (a0 a1 a2 a3 a4 a5 a7 : Value) (A : Option Addr) (n c : Nat) (w : World) : (Instr.field 41 (.agg #[a0, a1, a2, a3, a4, a5, .slice A n c, a7]) 6).run Tryz.prog w = .ok (.slice A n c) w := by
 simp [Instr.field, run_underlying Tryz.underlying41, asAgg, go_sem]
def FtR (w : World) (cs : List Value) (f : Ft) : Prop := ∃ A c, cs = f.cs (.slice A f.parts.length c) ∧ IntsAt w A f.parts
theorem FtR.stays : Stays FtR := fun _ _ _ _ hb ⟨A, c, h1, h2⟩ => ⟨A, c, h1, h2.ext hb⟩
abbrev FatesAt (w : World) (v : Value) (F : List Ft) : Prop := SeqAt w 5 FtR v F
theorem fates_nil (w : World) : FatesAt w (.slice none 0 0) [] := SeqAt.nil _ _ _
theorem FtsI.at {w : World} {D : Nat} {v : Value} {F : List Ft} {ps : List Value} (h : FtsI w D v F ps) : FatesAt w v F := by
 obtain ⟨A, c, e, hr, hn, hm, _⟩ := row_of_ownK h.own
 refine ⟨A, c, e, hn, hm, fun k f hf => ?_⟩
 have hk : k < F.length := (List.getElem?_eq_some_iff.1 hf).1
 obtain ⟨p, hp⟩ : ∃ p, ps[k]? = some p := ⟨_, List.getElem?_eq_getElem (by rw [h.len]; exact hk)⟩
 obtain ⟨A2, c2, rfl, hi, _⟩ := ints_of_own (h.parts k f p hf hp)
 have hg := fun j hj => ftC_get hf hp j hj
 rcases h.own.2 with ⟨_, e0⟩ | ⟨g, cap, cur, e0, _⟩
 ·have := ftC_len (F := F) h.len
  rw [e0] at this
  simp at this
  omega
 rw [e0] at e
 injection e with e1 _ _
 refine ⟨g, 0, f.cs (.slice A2 f.parts.length c2), e1.symm, rfl, fun j u hu => ?_, A2, c2, rfl, hi⟩
 have hj : j < 5 := (List.getElem?_eq_some_iff.1 hu).1
 have := h.own.cells (g := g) (by rw [e0]; rfl) (k * 5 + j) u (by rw [hg j hj]; exact hu)
 rw [Addr.add_lit] at this
 rw [Nat.zero_add] at this ⊢
 exact this
def RgP (l : List Rd) (D : Nat) (v : Value) (w : World) : Prop := ∃ ys, ys.Perm (regsL l) ∧ SrtR ys ∧ w.ownsRow D 128 7 v ys.length (ys.flatMap Rg.cs)
theorem RgP.ext {l : List Rd} {D : Nat} {v : Value} {w w' : World} (h : RgP l D v w) (hb : Below w.heap.size w w') : RgP l D v w' := by
 obtain ⟨ys, h1, h2, h3⟩ := h
 exact ⟨ys, h1, h2, own_ext h3 hb⟩
theorem own_map {w w' : World} {D : Nat} {e : TypeId} {sz : Nat} {v : Value} {n : Nat} {xs : List Value} (h : w.ownsRow D e sz v n xs) {b m : Nat} {M : List UInt8 → Option Int} (hm : MapS w b m M) (hg : w.grownBy w' (some b)) : w'.ownsRow D e sz v n xs :=
 own_same h (fun g hgb => hg.block g (h.lt g hgb).2 (fun e => by
  cases e
  obtain ⟨D2, ⟨es, clock, hb, r⟩, hat⟩ := hm
  obtain ⟨cur, hh⟩ := own_block h hgb
  rw [hh] at hb
  cases hb))
theorem FtsI.mapped {w w' : World} {D : Nat} {v : Value} {F : List Ft} {ps : List Value} (h : FtsI w D v F ps) {b m : Nat} {M : List UInt8 → Option Int} (hm : MapS w b m M) (hg : w.grownBy w' (some b)) : FtsI w' D v F ps :=
 ⟨own_map h.own hm hg, h.len, fun j f p hf hp => own_map (h.parts j f p hf hp) hm hg, h.apart⟩
theorem ply_res (d : Lst) (nm : List UInt8) : (plyG d nm).1.length ≤ 400 := by
 unfold plyG
 split
 ·unfold norS
  split
  ·simp
  split
  ·simp
  rename_i h _
  exact Nat.le_trans (joinS_len _) (by omega)
 simp
def ConfP (l : List Rd) (d : Lst) (dd : Dc) (F : List Ft) : Prop :=
 F = fatA l d (rawP l d) ∧ ∃ ys, ys.Perm (regsL l) ∧ SrtR ys ∧ dd = ⟨d.title, langL [] 0 l, d.rate, d.drop, (rawP l d).length, ys, evsA (rawP l d), []⟩
theorem dcE_evl {d : Dc} (h : dcE d = 0) : d.evs.length ≤ 400 ∧ evL d 0 d.evs = 0 := by
 unfold dcE at h
 split at h
 ·rename_i h1; exact absurd h h1
 split at h
 ·rename_i h1; exact absurd h h1
 split at h
 ·omega
 split at h
 ·rename_i h1; exact absurd h h1
 rename_i h1 h2
 exact ⟨by omega, Decidable.not_not.1 h2⟩
theorem evL_ok {d : Dc} : ∀ {t : List Ev} {k : Nat}, evL d k t = 0 → ∀ (j : Nat) (x : Ev), t[j]? = some x → evN d (k + j) x = 0
 | [], k, _, j, x, hx => by simp at hx
 | y :: t, k, h, j, x, hx => by
  unfold evL at h
  by_cases h0 : evN d k y = 0
  ·rw [if_pos h0] at h
   cases j with
   | zero => cases hx; exact h0
   | succ j =>
    have := evL_ok h j x (by simpa using hx)
    rwa [show k + (j + 1) = k + 1 + j by omega]
  rw [if_neg h0] at h
  exact absurd h h0
theorem dcE_ev {d : Dc} (h : dcE d = 0) (x : Ev) (hx : x ∈ d.evs) : evE x d.regs = 0 := by
 obtain ⟨j, hj⟩ := List.getElem?_of_mem hx
 have e := evL_ok (dcE_evl h).2 j x hj
 unfold evN at e
 by_cases h0 : evE x d.regs = 0
 ·exact h0
 rw [if_pos h0] at e
 exact absurd e h0
theorem conf_evs {l : List Rd} {d : Lst} (h : ConfOk l d) : ∀ x ∈ l, x.doc.evs.length ≤ 400 := fun x hx => by
 obtain ⟨j, hj⟩ := List.getElem?_of_mem hx
 exact (dcE_evl (h.docs j x hj).2.2.1).1
theorem conf_cln {l : List Rd} {d : Lst} (h : ConfOk l d) (ho : RdsOk l) : ∀ x ∈ l, ClnOk x.doc := fun x hx => by
 obtain ⟨j, hj⟩ := List.getElem?_of_mem hx
 have h1 := (h.docs j x hj).2.2.1
 have h2 := ho.docs x hx
 refine ⟨h2.regl, h2.evl, h2.cml, fun y hy => ?_⟩
 obtain ⟨_, _, h3, h4⟩ := evE_zero (dcE_ev h1 y hy)
 exact ⟨by omega, fun r hr => by have := h4 r hr; omega⟩
theorem jn_spd {l : List Ct} (h : ∀ x ∈ l, CutG x) : ∀ (k : Nat) (z : Ct), z ∈ jnF l k → spdB (pcOf z) = true := by
 intro k
 induction k with
 | zero => intro z hz; simp [jnF, jnR] at hz
 | succ k ih =>
  intro z hz
  cases hx : l[k]? with
  | none =>
   refine ih z ?_
   unfold jnF jnR at *
   rwa [List.take_add_one, hx, Option.toList_none, List.append_nil] at hz
  | some x =>
   have gx := h x (List.mem_of_getElem? hx)
   rcases jnF_cases l k with h0 | ⟨M, y, h0⟩
   ·rw [jnF_nil hx h0] at hz
    rcases List.mem_singleton.1 hz with rfl
    exact gx.sp
   rw [jnF_more hx h0] at hz
   have hy := ih y (by rw [h0]; simp)
   split at hz
   ·rcases List.mem_append.1 hz with hz | hz
    ·exact ih z (by rw [h0]; exact List.mem_append_left _ hz)
    rcases List.mem_singleton.1 hz with rfl
    exact hy
   rcases List.mem_append.1 hz with hz | hz
   ·exact ih z (by rw [h0]; exact hz)
   rcases List.mem_singleton.1 hz with rfl
   exact gx.sp
theorem jn_ok {l : List Ct} (h : ∀ x ∈ l, CutG x) (z : Ct) (hz : z ∈ jnC l) : CtOk z := by
 have h1 := jn_spd h l.length z (by rw [jnF_all]; exact hz)
 obtain ⟨k1, k2, k3, k4, _⟩ := spd_bd h1
 simp only [pcOf] at k1 k2 k3 k4
 exact ⟨⟨by omega, by omega⟩, by omega, by omega⟩
theorem nm_len {s : List UInt8} (h : nmB s = true) : s.length ≤ 16 := by
 unfold nmB nmH at h
 simp only [Bool.and_eq_true] at h
 revert h
 cases s with
 | nil => intro _; simp
 | cons a t => intro h; simp at h ⊢; omega
theorem jn_len (l : List Ct) : (jnC l).length ≤ l.length := by rw [← jnF_all]; exact jnF_len l l.length
theorem hd_pos {M : List Spn} (h : Can M) (hk : (hdV M).2 = true) : (hdV M).1.i < (hdV M).1.o := by
 cases M with
 | nil => cases hk
 | cons x r => exact h.1
theorem part_pos {c : Ct} {s : Spn} (h : (partV c s).2 = true) : (partV c s).1.i < (partV c s).1.o := by
 unfold partV at *
 refine hd_pos ?_ h
 unfold preP
 split
 ·split
  ·exact joinS_can _
  trivial
 trivial
theorem fatA_parts (l : List Rd) (d : Lst) (Q : List (Nat × Ev)) : ∀ (q : Nat) (f : Ft), (fatA l d Q)[q]? = some f → f.parts.length ≤ Q.length := by
 have key : ∀ (Q : List (Nat × Ev)) (F : List Ft) (n : Nat), (∀ (q : Nat) (f : Ft), F[q]? = some f → f.parts.length ≤ n) → ∀ (q : Nat) (f : Ft), (Q.foldl (fun F q => match F[q.1]? with | some f => F.set q.1 (f.add q.2.id) | none => F) F)[q]? = some f → f.parts.length ≤ n + Q.length := by
  intro Q
  induction Q with
  | nil => intro F n h q f hf; have := h q f hf; simpa using this
  | cons a t ih =>
   intro F n h q f hf
   rw [List.foldl_cons] at hf
   have := ih _ (n + 1) (fun q f hf => ?_) q f hf
   ·rw [List.length_cons]; omega
   split at hf
   ·rename_i g hg
    by_cases hq : q = a.1
    ·subst hq
     rw [List.getElem?_set_self (List.getElem?_eq_some_iff.1 hg).1] at hf
     cases hf
     have := h a.1 g hg
     unfold Ft.add
     simp only [List.length_append, List.length_singleton]
     omega
    rw [List.getElem?_set_ne (Ne.symm hq)] at hf
    have := h q f hf
    omega
   have := h q f hf
   omega
 intro q f hf
 have := key Q (fat0 l d) 0 (fun q f hf => ?_) q f hf
 ·omega
 have hm := List.mem_of_getElem? hf
 unfold fat0 fatR at hm
 rw [List.mem_flatMap] at hm
 obtain ⟨x, _, hx⟩ := hm
 rw [List.mem_map] at hx
 obtain ⟨e, _, rfl⟩ := hx
 exact Nat.le_refl _
theorem part_bd {c : Ct} {s : Spn} (h : (partV c s).2 = true) : 0 ≤ (partV c s).1.i ∧ (partV c s).1.o ≤ 10378368000 := by
 unfold partV at *
 by_cases h1 : chkP [pcOf c] = 0
 ·by_cases h2 : chkS [s] = 0
  ·have e := pre_nor h1 h2
   have e2 : (norS (preL [pcOf c] s)).2 = 0 := by
    rw [e]
    unfold preP
    rw [if_pos h1, if_pos h2]
   have h3 := (norS_chk e2).1
   rw [e] at h3
   generalize (preP [pcOf c] s).1 = M at *
   cases M with
   | nil => cases h
   | cons x r =>
    have := chk_bd h3 x (List.mem_cons_self ..)
    exact ⟨this.1, this.2.2.2⟩
  exfalso
  unfold preP at h
  rw [if_pos h1, if_neg h2] at h
  cases h
 exfalso
 unfold preP at h
 rw [if_neg h1] at h
 cases h
theorem accC_neg {l : List Rd} {d : Lst} {c : Ct} {A : List (Nat × Ev)} (h : fndD c.reel 0 l < 0) : accC l d c A = A := by
 unfold accC
 split
 ·rw [if_pos h]
 rfl
theorem accC_at {l : List Rd} {d : Lst} {c : Ct} {A : List (Nat × Ev)} {j : Nat} {x : Rd} (h : fndD c.reel 0 l = (j : Int)) (hx : l[j]? = some x) : accC l d c A = accL c (staN l d j) 0 x.doc.evs A := by
 unfold accC
 rw [h, Int.toNat_natCast, hx]
 simp only []
 rw [if_neg (by omega)]
theorem ord_dist {l : List Rd} {d : Lst} (h : ConfOk l d) : ∀ (i j : Nat) (x y : Rd), l[i]? = some x → l[j]? = some y → x.reel = y.reel → i = j := by
 have step : ∀ (n : Nat) (i : Nat) (x y : Rd), l[i]? = some x → l[i + n + 1]? = some y → cmpB x.reel y.reel < 0 := by
  intro n
  induction n with
  | zero =>
   intro i x y hx hy
   have h1 := (h.docs (i + 1) y hy).2.1
   unfold ordB at h1
   have ep : prv l (i + 1) = some x := by
    unfold prv
    rw [if_neg (by omega)]
    exact hx
   rw [ep] at h1
   have h2 := of_decide_eq_false h1
   have h3 := cmp_anti x.reel y.reel
   omega
  | succ n ih =>
   intro i x y hx hy
   obtain ⟨z, hz⟩ : ∃ z, l[i + n + 1]? = some z := ⟨_, List.getElem?_eq_getElem (by have := (List.getElem?_eq_some_iff.1 hy).1; omega)⟩
   have h1 := ih i x z hx hz
   have h2 := (h.docs (i + n + 1 + 1) y (by rwa [show i + (n + 1) + 1 = i + n + 1 + 1 by omega] at hy)).2.1
   unfold ordB at h2
   have ep : prv l (i + n + 1 + 1) = some z := by
    unfold prv
    rw [if_neg (by omega)]
    exact hz
   rw [ep] at h2
   have h3 := of_decide_eq_false h2
   have h4 := cmp_anti z.reel y.reel
   exact cmp_trans h1 (by omega)
 intro i j x y hx hy e
 rcases Nat.lt_trichotomy i j with h1 | h1 | h1
 ·have := step (j - i - 1) i x y hx (by rwa [show i + (j - i - 1) + 1 = j by omega])
  rw [e, cmp_self] at this
  omega
 ·exact h1
 have := step (i - j - 1) j y x hy (by rwa [show j + (i - j - 1) + 1 = i by omega])
 rw [e, cmp_self] at this
 omega
theorem grown_below {w w1 w2 : World} {r : Option Nat} (h : w.grownBy w1 r) (hb : Below w1.heap.size w1 w2) : w.grownBy w2 r := by
 obtain ⟨a1, a2, a3, a4, a5⟩ := h
 obtain ⟨b1, b2, b3, b4, b5⟩ := hb
 exact ⟨b1.trans a1, b2.trans a2, b3.trans a3, Nat.le_trans a4 b4, fun k hk hne => (b5 k (Nat.lt_of_lt_of_le hk a4)).trans (a5 k hk hne)⟩
def ApP (b N : Nat) (w0 : World) (blk : Option Nat) (m : Nat) (xs : List Value) (v : Value) (w : World) : Prop := ∃ w1 w2 g cap, v = .slice (some ⟨g, 0, none⟩) m cap ∧ Below N w0 w1 ∧ w1.grownBy w2 blk ∧ w2.ownsRow b 2 1 v m xs ∧ (blk = some g ∨ g = w1.heap.size) ∧ Below w2.heap.size w2 w
theorem ApP.ext {b N m : Nat} {w0 w w' : World} {blk : Option Nat} {xs : List Value} {v : Value} (h : ApP b N w0 blk m xs v w) (hb : Below w.heap.size w w') : ApP b N w0 blk m xs v w' := by
 obtain ⟨w1, w2, g, cap, h1, h2, h3, h4, h5, h6⟩ := h
 exact ⟨w1, w2, g, cap, h1, h2, h3, h4, h5, h6.trans (hb.mono h6.size)⟩
def ConfPost (l : List Rd) (d : Lst) (w : World) (e : Ending) (w' : World) : Prop := (∃ q dd r ev cm fv F, e = .returned (.tuple #[Dc.v dd r ev cm, fv, .int .i64 q]) ∧ DocAt w' dd r ev cm ∧ FatesAt w' fv F ∧ (q = 0 ↔ ConfOk l d ∧ (rawP l d).length ≤ 400) ∧ (q = 0 → ConfP l d dd F)) ∧ Below w.heap.size w w'
theorem ConfPost.of {l : List Rd} {d : Lst} {w w' : World} {q : Int} {dd : Dc} {r ev cm fv : Value} {F : List Ft} (h1 : DocAt w' dd r ev cm) (h2 : FatesAt w' fv F) (h3 : q = 0 ↔ ConfOk l d ∧ (rawP l d).length ≤ 400) (h4 : q = 0 → ConfP l d dd F) (h5 : Below w.heap.size w w') :
  ConfPost l d w (.returned (.tuple #[Dc.v dd r ev cm, fv, .int .i64 q])) w' := ⟨⟨q, dd, r, ev, cm, fv, F, rfl, h1, h2, h3, h4⟩, h5⟩
def mkP (l : List Rd) (d : Lst) (b O G : Nat) (lg : List UInt8) (rg : Value) (ys : List Rg) (fv jv : Value) : CP := ⟨b, O, G + 1, b, l.length, fstM l d l.length, d.title, lg, d.rate, d.drop, rg, ys, fv, jv, jnC d.cuts⟩
def OutI (l : List Rd) (d : Lst) (p : CP) (k : Nat) (w : World) : Prop := ∃ Q ev ps, accJ l d ((jnC d.cuts).drop k) Q = rawP l d ∧ Q.length ≤ k * 400 ∧ CS p (Q.length : Int) ev (evsA Q) (fatA l d Q) ps w
theorem OutI.ext {l : List Rd} {d : Lst} {p : CP} {k : Nat} {w w' : World} (h : OutI l d p k w) (hb : Below w.heap.size w w') : OutI l d p k w' := by
 obtain ⟨Q, ev, ps, h1, h2, h3⟩ := h
 exact ⟨Q, ev, ps, h1, h2, h3.ext hb⟩
def InI (l : List Rd) (d : Lst) (p : CP) (c : Ct) (s k : Nat) (E : List Ev) (Q1 : List (Nat × Ev)) (cv : Value) (j : Nat) (w : World) : Prop := ∃ Q ev ps, accL c s j (E.drop j) Q = Q1 ∧ Q.length ≤ k * 400 + j ∧ CS p (Q.length : Int) ev (evsA Q) (fatA l d Q) ps w ∧ ∀ g, cv.ownBlock = some g → ev.ownBlock ≠ some g
theorem InI.of {l : List Rd} {d : Lst} {p : CP} {c : Ct} {s k : Nat} {E : List Ev} {Q1 : List (Nat × Ev)} {cv : Value} {j : Nat} {w : World} {Q : List (Nat × Ev)} {ev : Value} {ps : List Value} (h1 : accL c s j (E.drop j) Q = Q1) (h2 : Q.length ≤ k * 400 + j) (h3 : CS p (Q.length : Int) ev (evsA Q) (fatA l d Q) ps w) (h4 : ∀ g, cv.ownBlock = some g → ev.ownBlock ≠ some g) : InI l d p c s k E Q1 cv j w := ⟨Q, ev, ps, h1, h2, h3, h4⟩
theorem InI.ext {l : List Rd} {d : Lst} {p : CP} {c : Ct} {s k : Nat} {E : List Ev} {Q1 : List (Nat × Ev)} {cv : Value} {j : Nat} {w w' : World} (h : InI l d p c s k E Q1 cv j w) (hb : Below w.heap.size w w') : InI l d p c s k E Q1 cv j w' := by
 obtain ⟨Q, ev, ps, h1, h2, h3, h4⟩ := h
 exact ⟨Q, ev, ps, h1, h2, h3.ext hb, h4⟩
theorem evsA_len (Q : List (Nat × Ev)) : (evsA Q).length = Q.length := by unfold evsA; simp
theorem CS.start {l : List Rd} {d : Lst} {b O G nR nF : Nat} {lg : List UInt8} {rA fA : Option Addr} {rc fc : Nat} {jv : Value} {w : World} {ys : List Rg} {ps : List Value}
  (h1 : HeldT w O 41 [.string (sB d.title), .string (sB lg), .int .u8 d.rate, .bool d.drop, .int .i64 0, .slice rA nR rc, .slice none 0 0, .slice none 0 0]) (h2 : HeldT w (G + 1) 41 zdC)
  (h3 : FtsI w b (.slice fA nF fc) (fat0 l d) ps) (h4 : MapS w b l.length (fstM l d l.length)) (h5 : w.ownsRow b 33 7 jv (jnC d.cuts).length ((jnC d.cuts).flatMap Ct.cs)) (h6 : w.ownsRow b 128 7 (.slice rA nR rc) ys.length (ys.flatMap Rg.cs)) :
  OutI l d (mkP l d b O G lg (.slice rA nR rc) ys (.slice fA nF fc) jv) 0 w :=
 ⟨[], .slice none 0 0, ps, rfl, Nat.zero_le _, h1, h2, OwnS.nil _ _ _ _ _, h3, h4, h5, h6⟩
end Go.Proofs.YtmopjhbfobmklaaGreatDoor
