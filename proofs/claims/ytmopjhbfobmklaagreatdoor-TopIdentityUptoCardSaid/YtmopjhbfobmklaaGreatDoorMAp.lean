/-
  The law of a region that draws its order, with an invariant that sees what has come up; and the same in two phases. Without conditions.
-/
import Derived.Test.YtmopjhbfobmklaaGreatDoorMBa
set_option maxRecDepth 100000
set_option maxHeartbeats 40000000
namespace Go.Proofs.YtmopjhbfobmklaaGreatDoor
set_option linter.unusedVariables false
set_option linter.unusedSimpArgs false
open Go
def OpOkJ (P : Program) (l : List Oper) (f0 : Nat → Value) (J : Array Bool → World → Prop) (Φ : Nat → Value → World → Prop) (i : Nat) (o : Oper) : Prop :=
 ∀ (ev : Nat → Value) (w : World) (listed : Array Bool), J listed w → listed.size = l.length → listed.getD i false = false → (∀ j k, listed.getD j false = true → depB l j k = true → listed.getD k false = true) →
  (∀ j d, depB l i j = true → dstOf l j = some d → Φ d (ev d) w) → (∀ s, freeB l i s = true → ev s = f0 s) →
  match o.guard with
  | none => OpRuns P (evalOf ev) o w fun v w' => J (listed.setIfInBounds i true) w' ∧ (∀ j s u, listed.getD j false = true → dstOf l j = some s → Φ s u w → Φ s u w') ∧ ∀ d, o.dst = some d → Φ d v w'
  | some (j, want) =>
   (yieldedEv l ev j = some want → OpRuns P (evalOf ev) o w fun v w' => J (listed.setIfInBounds i true) w' ∧ (∀ j s u, listed.getD j false = true → dstOf l j = some s → Φ s u w → Φ s u w') ∧ ∀ d, o.dst = some d → Φ d v w') ∧
   (yieldedEv l ev j ≠ some want → J (listed.setIfInBounds i true) w ∧ ∀ d, o.dst = some d → Φ d undef w)
structure JInv (l : List Oper) (a0 : Act) (J : Array Bool → World → Prop) (Φ : Nat → Value → World → Prop) (listed : Array Bool) (a : Act) (w : World) : Prop where
 size : listed.size = l.length
 closed : ∀ j i, listed.getD j false = true → depB l j i = true → listed.getD i false = true
 inv : J listed w
 defers : a.defers = a0.defers
 tsize : a.tmps.size = a0.tmps.size
 vals : ∀ j d, listed.getD j false = true → dstOf l j = some d → Φ d (a.tmps.getD d undef) w
 kept : ∀ s, (∀ j, listed.getD j false = true → dstOf l j ≠ some s) → a.tmps.getD s undef = a0.tmps.getD s undef
structure KInv (l : List Oper) (n : Nat) (a0 : Act) (J : Array Bool → World → Prop) (Φ : Nat → Value → World → Prop) (listed : Array Bool) (a : Act) (w : World) : Prop extends JInv l a0 J Φ listed a w where
 tail : ∀ t, n ≤ t → t < l.length → listed.getD t true = false
theorem KInv.headInv {l : List Oper} {n : Nat} {a0 : Act} {J : Array Bool → World → Prop} {Φ : Nat → Value → World → Prop} {listed : Array Bool} {a : Act} {w : World} (h : KInv l n a0 J Φ listed a w) : HeadInv .any l.toArray n listed :=
 ⟨by simpa using h.size, fun j oj hj hl e he hb => h.closed j e.on hl (depB_spec.2 ⟨oj, by simpa using hj, e, he, hb, rfl⟩), fun t ht ht' => h.tail t ht (by simpa using ht')⟩
theorem wp_region_seen {P : Program} {id : Nat} {l : List Oper} {Q : Exit → Act → World → Prop} {a0 : Act} {w0 : World} (n : Nat)
  (hm : P.follows .mixedOrders = true) (J : Array Bool → World → Prop) (Φ : Nat → Value → World → Prop) (sz : Nat) (hsz : a0.tmps.size = sz) (hok : okB l sz = true)
  (hn : decide (n < l.length) = true) (hs : Region.sinkB .any l.toArray n = true) (hc : Region.chainB .any l.toArray n = true)
  (hq : Region.seqB .any l.toArray (l.length - n) n ((List.replicate n true ++ List.replicate (l.length - n) false).toArray) = true)
  (hI : J (Array.replicate l.length false) { w0 with drawn := w0.drawn + 1 })
  (hops : AllOps (OpOkJ P l (fun s => a0.tmps.getD s undef) J Φ) 0 (l.take n))
  (hend : ∀ (listed : Array Bool) (a : Act) (w : World), (∀ i, i < n → listed.getD i false = true) → a.defers = a0.defers → a.tmps.size = a0.tmps.size → J listed w → (∀ j d, j < n → dstOf l j = some d → Φ d (a.tmps.getD d undef) w) →
   (∀ s, (∀ j, j < n → dstOf l j ≠ some s) → a.tmps.getD s undef = a0.tmps.getD s undef) → wpList P l.toArray Q (l.drop n) a w) :
  (Code.region id l.toArray true).wp P Q a0 w0 := by
 subst hsz
 have hn := of_decide_eq_true hn
 refine wp_region_any hm ?_
 have hlt_of : ∀ j d, dstOf l j = some d → j < l.length := fun j d hd => by
  rcases Nat.lt_or_ge j l.length with h' | h'
  ·exact h'
  simp [dstOf, List.getElem?_eq_none h'] at hd
 have listed_lt : ∀ {listed : Array Bool} {a : Act} {w : World}, KInv l n a0 J Φ listed a w → ∀ j, listed.getD j false = true → j < n := by
  intro listed a w inv j hj
  rcases Nat.lt_or_ge j n with h | h
  ·exact h
  rcases Nat.lt_or_ge j l.length with h' | h'
  ·have := inv.tail j h h'
   have hjs : j < listed.size := by rw [inv.size]; exact h'
   simp [hjs] at this hj
   rw [this] at hj; cases hj
  have hjs : ¬ j < listed.size := by rw [inv.size]; omega
  simp [hjs] at hj
 have key : ∀ (f : Nat) (listed : Array Bool) (a : Act) (w : World), KInv l n a0 J Φ listed a w →
   ((List.range n).filter fun i => !listed.getD i true).length = f → wpAny P .any l.toArray Q (f + (l.length - n)) listed a w := by
  intro f
  induction f with
  | zero =>
   intro listed a w inv h0
   have h0 : (List.range n).filter (fun i => !listed.getD i true) = [] := List.eq_nil_of_length_eq_zero h0
   have hall : ∀ i, i < n → listed.getD i false = true := by
    intro i hi
    cases hl : listed.getD i false with
    | true => rfl
    | false =>
     have his : i < listed.size := by rw [inv.size]; omega
     have hun := getD_in his hl
     have : i ∈ (List.range n).filter (fun i => !listed.getD i true) := List.mem_filter.2 ⟨List.mem_range.2 hi, by rw [hun]; rfl⟩
     rw [h0] at this
     cases this
   have hl : listed = (List.replicate n true ++ List.replicate (l.length - n) false).toArray := by
    refine Array.ext (by rw [inv.size]; simp; omega) fun i h1 h2 => ?_
    rcases Nat.lt_or_ge i n with h | h
    ·have := hall i h
     simp [h1] at this
     simp [this, h]
    have := inv.tail i h (by rw [← inv.size]; exact h1)
    simp [h1] at this
    simp [this, List.getElem_append, Nat.not_lt.2 h]
   rw [Nat.zero_add]
   have hd : (l.drop n).length = l.length - n := by simp
   have := wpAny_of_seq (md := .any) (Q' := Q) (P := P) (ops := l.toArray) (l.drop n) n listed a w (fun j => by simp [List.getElem?_drop]) (by rw [hd, hl]; exact hq)
    (hend listed a w hall inv.defers inv.tsize inv.inv (fun j d hj hd => inv.vals j d (hall j hj) hd) (fun s hs => inv.kept s fun j hj => hs j (listed_lt inv j hj)))
   rwa [hd] at this
  | succ f ih =>
   intro listed a w inv hf
   rw [show f + 1 + (l.length - n) = (f + (l.length - n)) + 1 by omega]
   have hready : ∀ i ∈ Region.ready .any l.toArray listed, i < n := by
    intro i hi
    rcases Nat.lt_or_ge i n with h | h
    ·exact h
    exfalso
    obtain ⟨j, hj⟩ : ∃ j, j ∈ (List.range n).filter (fun i => !listed.getD i true) := by
     cases hx : (List.range n).filter (fun i => !listed.getD i true) with
     | nil => rw [hx] at hf; cases hf
     | cons x xs => exact ⟨x, List.mem_cons_self⟩
    obtain ⟨hj1, hj2⟩ := List.mem_filter.1 hj
    exact tail_waits (md := .any) hs hc (by simpa using hn) inv.headInv _ j rfl (List.mem_range.1 hj1) (by simpa using hj2) i h hi
   have some_ready : Region.ready .any l.toArray listed ≠ [] := by
    intro hr
    have allL : ∀ i, i < n → listed.getD i false = true := by
     intro i
     induction i using Nat.strongRecOn with
     | _ i ihi =>
      intro hi
      cases hl : listed.getD i false with
      | true => rfl
      | false =>
       exfalso
       have his : i < listed.size := by rw [inv.size]; omega
       have hun := getD_in his hl
       obtain ⟨o, ho⟩ : ∃ o, l[i]? = some o := ⟨l[i]'(by omega), List.getElem?_eq_getElem (by omega)⟩
       have hmem : i ∈ Region.ready .any l.toArray listed := by
        rw [mem_ready]
        exact ⟨hun, o, by simpa using ho, fun e he hb => ihi e.on ((okB_spec hok ho).1 e he hb) (by have := (okB_spec hok ho).1 e he hb; omega)⟩
       rw [hr] at hmem
       cases hmem
    have : (List.range n).filter (fun i => !listed.getD i true) = [] := by
     refine List.filter_eq_nil_iff.2 fun i hi => ?_
     have his : i < listed.size := by rw [inv.size]; have := List.mem_range.1 hi; omega
     have := allL i (List.mem_range.1 hi)
     simp [his] at this
     simp [his, this]
    rw [this] at hf
    cases hf
   refine ⟨fun hr => absurd hr some_ready, fun i hi => ?_⟩
   have hin := hready i hi
   obtain ⟨hun, o, ho, δ⟩ := mem_ready.1 hi
   have ho' : l[i]? = some o := by simpa using ho
   have hlt : i < l.length := (List.getElem?_eq_some_iff.1 ho').1
   have hunf : listed.getD i false = false := by
    have : i < listed.size := by rw [inv.size]; exact hlt
    simp [this] at hun ⊢; exact hun
   have hop := hops.get i o (by rw [List.getElem?_take, if_pos hin]; exact ho')
   rw [Nat.zero_add] at hop
   have hdeps : ∀ j, depB l i j = true → listed.getD j false = true := by
    intro j hj
    obtain ⟨o2, ho2, e, he, hb, hon⟩ := depB_spec.1 hj
    have : o2 = o := Option.some.inj (ho2.symm.trans ho')
    subst this
    have := δ e he hb
    rwa [hon] at this
   have hop' := hop (fun t => a.tmps.getD t undef) w listed inv.inv inv.size hunf inv.closed (fun j d hj hd => inv.vals j d (hdeps j hj) hd) (fun s hs => inv.kept s fun j hj hd => by
    have hjl := hlt_of j s hd
    have h1 := List.all_eq_true.1 hs j (List.mem_range.2 hjl)
    simp only [hd, bne_self_eq_false, Bool.false_or, Bool.or_eq_true, beq_iff_eq] at h1
    rcases h1 with h1 | h1
    ·subst h1; rw [hunf] at hj; cases hj
    have := inv.closed j i hj h1
    rw [hunf] at this
    cases this)
   have hnew : ∀ v w', (J (listed.setIfInBounds i true) w' ∧ (∀ j s u, listed.getD j false = true → dstOf l j = some s → Φ s u w → Φ s u w') ∧ ∀ d, o.dst = some d → Φ d v w') → KInv l n a0 J Φ (listed.setIfInBounds i true) (a.put o.dst v) w' := by
    rintro v w' ⟨hI', hst, hv⟩
    have hlisted : ∀ j, (listed.setIfInBounds i true).getD j false = true ↔ (j = i ∨ listed.getD j false = true) := by
     intro j
     by_cases hji : j = i
     ·subst hji
      have : j < listed.size := by rw [inv.size]; exact hlt
      simp [this]
     rw [getD_set_ne false (Ne.symm hji)]; simp [hji]
    have hspec := okB_spec hok ho'
    have hgd : ∀ s, (a.put o.dst v).tmps.getD s undef = if o.dst = some s then v else a.tmps.getD s undef := by
     intro s
     cases hd : o.dst with
     | none => simp [Act.put]
     | some d =>
      have hdl := (hspec.2 d hd).1
      rw [getD_put (by rw [inv.tsize]; exact hdl)]
      by_cases h : s = d
      ·simp [h]
      simp [h, Ne.symm h]
    refine ⟨⟨by simp [inv.size], fun j k hj hk => ?_, hI', by cases o.dst <;> exact inv.defers, by cases o.dst <;> simp [Act.put, inv.tsize], fun j d hj hd => ?_, fun s hs => ?_⟩, fun t ht ht' => by rw [getD_set_ne true (by omega)]; exact inv.tail t ht ht'⟩
    ·rw [hlisted] at hj ⊢
     rcases hj with rfl | hj
     ·exact .inr (hdeps k hk)
     exact .inr (inv.closed j k hj hk)
    ·rw [hlisted] at hj
     rw [hgd]
     by_cases hji : j = i
     ·subst hji
      have : o.dst = some d := by simpa [dstOf, ho'] using hd
      rw [if_pos this]
      exact hv d this
     have hj' := hj.resolve_left hji
     have hne : o.dst ≠ some d := fun h => (hspec.2 d h).2 j hji hd
     rw [if_neg hne]
     exact hst j d _ hj' hd (inv.vals j d hj' hd)
    rw [hgd]
    have hne : o.dst ≠ some s := fun h => hs i ((hlisted i).2 (.inl rfl)) (by simp [dstOf, ho', h])
    rw [if_neg hne]
    exact inv.kept s fun j hj => hs j ((hlisted j).2 (.inr hj))
   have hcount : ((List.range n).filter fun j => !(listed.setIfInBounds i true).getD j true).length = f := by
    have hsub : ∀ (xs : List Nat), xs.Nodup → i ∈ xs → (xs.filter fun j => !(listed.setIfInBounds i true).getD j true).length + 1 = (xs.filter fun j => !listed.getD j true).length := by
     intro xs
     induction xs with
     | nil => intro _ h; cases h
     | cons x xs ihx =>
      intro hnd hmem
      have hi' : i < listed.size := by rw [inv.size]; exact hlt
      by_cases hxi : x = i
      ·subst hxi
       have hnot : x ∉ xs := (List.nodup_cons.1 hnd).1
       have heq : xs.filter (fun j => !(listed.setIfInBounds x true).getD j true) = xs.filter (fun j => !listed.getD j true) := by
        refine List.filter_congr fun j hj => ?_
        rw [getD_set_ne true (fun h => hnot (by rw [h]; exact hj))]
       have h1 : (!(listed.setIfInBounds x true).getD x true) = false := by simp [hi']
       have h2 : (!listed.getD x true) = true := by rw [hun]; rfl
       rw [List.filter_cons, List.filter_cons, h1, h2, heq]
       simp
      have := ihx (List.nodup_cons.1 hnd).2 (List.mem_of_ne_of_mem (Ne.symm hxi) hmem)
      have h1 : (listed.setIfInBounds i true).getD x true = listed.getD x true := getD_set_ne true (Ne.symm hxi)
      rw [List.filter_cons, List.filter_cons, h1]
      split <;> (try simp only [List.length_cons]) <;> omega
    have := hsub (List.range n) List.nodup_range (List.mem_range.2 hin)
    omega
   have goOn : ∀ v w', (J (listed.setIfInBounds i true) w' ∧ (∀ j s u, listed.getD j false = true → dstOf l j = some s → Φ s u w → Φ s u w') ∧ ∀ d, o.dst = some d → Φ d v w') → wpAny P .any l.toArray Q (f + (l.length - n)) (listed.setIfInBounds i true) (a.put o.dst v) w' :=
    fun v w' h => ih _ _ _ (hnew v w' h) hcount
   unfold wpOp
   rw [ho]
   dsimp only
   cases hg : o.guard with
   | none =>
    rw [hg] at hop'
    dsimp only at hop'
    rw [if_pos (by simp [Region.wanted, hg])]
    exact .inl (wp_of_opRuns (by rw [eval_eq]; exact hop') goOn)
   | some gw =>
    obtain ⟨g, want⟩ := gw
    rw [hg] at hop'
    dsimp only at hop'
    have hy : ∀ b, yielded l.toArray a.tmps g = some b ↔ yieldedEv l (fun t => a.tmps.getD t undef) g = some b := by
     intro b
     unfold yielded yieldedEv dstOf
     simp only [List.getElem?_toArray]
     cases hd : (l[g]?).bind (·.dst) with
     | none => simp
     | some d =>
      simp only [Option.bind_some]
      rcases Nat.lt_or_ge d a.tmps.size with h' | h'
      ·simp [Array.getD_eq_getD_getElem?, h']
       cases a.tmps[d] <;> exact Iff.rfl
      simp [Array.getD_eq_getD_getElem?, Array.getElem?_eq_none h', undef]
    by_cases hw : yieldedEv l (fun t => a.tmps.getD t undef) g = some want
    ·rw [if_pos (by simp [Region.wanted, hg, (hy want).2 hw])]
     exact .inl (wp_of_opRuns (by rw [eval_eq]; exact hop'.1 hw) goOn)
    rw [if_neg (by
     simp only [Region.wanted, hg, beq_iff_eq]
     exact fun h => hw ((hy want).1 h))]
    exact goOn _ _ ⟨(hop'.2 hw).1, fun _ _ _ _ _ h => h, (hop'.2 hw).2⟩
 have hf : ∀ j, (Array.replicate l.toArray.size false).getD j false = true → False := fun j h => by
  simp only [Array.getD_eq_getD_getElem?, Array.getElem?_replicate] at h
  split at h <;> simp at h
 have h0 : KInv l n a0 J Φ (Array.replicate l.toArray.size false) a0 { w0 with drawn := w0.drawn + 1 } :=
  ⟨⟨by simp, fun j i h => (hf j h).elim, hI, rfl, rfl, fun j d h => (hf j h).elim, fun _ _ => rfl⟩, fun t _ ht => getD_in (by simpa using ht) (getD_replicate_false _ _)⟩
 have := key n _ a0 _ h0 (by
  rw [List.filter_eq_self.2]
  ·simp
  intro i hi
  have hi := List.mem_range.1 hi
  rw [getD_in (by simp; omega) (getD_replicate_false _ _)]
  rfl)
 rw [show n + (l.length - n) = l.toArray.size by simp; omega] at this
 exact this
theorem OpRuns.mono {P : Program} {ρ : Operand → Value} {o : Oper} {w : World} {R R' : Value → World → Prop} (h : OpRuns P ρ o w R) (hR : ∀ v w', R v w' → R' v w') : OpRuns P ρ o w R' := by
 unfold OpRuns at h ⊢
 split at h
 ·exact hR _ _ h
 ·exact hR _ _ h
 ·refine h.mono ?_
  intro e w' he
  split at he
  ·exact hR _ _ he
  exact he.elim
 exact h.elim
theorem kept_front {l : List Oper} {n s : Nat} (h : (List.range n).all (fun j => dstOf l j != some s) = true) : ∀ j, j < n → dstOf l j ≠ some s := fun j hj e => by
 have := List.all_eq_true.1 h j (List.mem_range.2 hj)
 rw [e] at this
 simp at this
theorem κf {l : List Oper} {n : Nat} {f g : Nat → Value} (hk : ∀ s, (∀ j, j < n → dstOf l j ≠ some s) → f s = g s) (s : Nat) (h : (List.range n).all (fun j => dstOf l j != some s) = true) : f s = g s := hk s (kept_front h)
theorem dst_only {l : List Oper} {t d : Nat} (h : (List.range l.length).all (fun j => j == t || dstOf l j != some d) = true) : ∀ j, j ≠ t → dstOf l j ≠ some d := fun j hj e => by
 rcases Nat.lt_or_ge j l.length with hl | hl
 ·have := List.all_eq_true.1 h j (List.mem_range.2 hl)
  rw [e] at this
  simp [hj] at this
 simp [dstOf, List.getElem?_eq_none hl] at e
def twoJ (t : Nat) (I0 I1 : World → Prop) (listed : Array Bool) (w : World) : Prop := if listed.getD t false = true then I1 w else I0 w
def reachB (l : List Oper) : Nat → Nat → Nat → Bool
 | 0, _, _ => false
 | f + 1, t, i => depB l t i || (List.range l.length).any fun k => depB l t k && reachB l f k i
theorem reach_listed {l : List Oper} {listed : Array Bool} (hcl : ∀ j k, listed.getD j false = true → depB l j k = true → listed.getD k false = true) : ∀ (f t i : Nat), reachB l f t i = true → listed.getD t false = true → listed.getD i false = true
 | 0, _, _, h, _ => by cases h
 | f + 1, t, i, h, ht => by
  unfold reachB at h
  rw [Bool.or_eq_true] at h
  rcases h with h | h
  ·exact hcl t i ht h
  obtain ⟨k, _, hk⟩ := List.any_eq_true.1 h
  rw [Bool.and_eq_true] at hk
  obtain ⟨h1, h2⟩ := hk
  exact reach_listed hcl f k i h2 (hcl t k ht h1)
theorem twoJ_set {t i : Nat} {I0 I1 : World → Prop} {listed : Array Bool} {w : World} (h : i ≠ t) : twoJ t I0 I1 (listed.setIfInBounds i true) w ↔ twoJ t I0 I1 listed w := by
 unfold twoJ
 rw [getD_set_ne false h]
section
variable {P : Program} {l : List Oper} {f0 : Nat → Value} {I0 I1 : World → Prop} {Φ : Nat → Value → World → Prop} {i t : Nat} {o : Oper}
theorem OpOkJ.early (f : Nat) (hg : o.guard = none) (hr : reachB l f t i = true) (hne : i ≠ t) (h : OpOk P l f0 I0 Φ i o) : OpOkJ P l f0 (twoJ t I0 I1) Φ i o := by
 intro ev w listed hJ hsz hun hcl δ φ
 have ht : ¬ listed.getD t false = true := fun ht => by
  rw [reach_listed hcl f t i hr ht] at hun
  cases hun
 have h0 := h ev w (by unfold twoJ at hJ; rwa [if_neg ht] at hJ) δ φ
 rw [hg] at h0 ⊢
 dsimp only at h0 ⊢
 refine OpRuns.mono h0 fun v w' ⟨h1, h2, h3⟩ => ⟨(twoJ_set hne).2 (by unfold twoJ; rwa [if_neg ht]), fun j s u _ _ => h2 s u, h3⟩
theorem OpOkJ.both (hg : o.guard = none) (hne : i ≠ t) (h : OpOk P l f0 I0 Φ i o) (k : OpOk P l f0 I1 Φ i o) : OpOkJ P l f0 (twoJ t I0 I1) Φ i o := by
 intro ev w listed hJ hsz hun hcl δ φ
 by_cases ht : listed.getD t false = true
 ·have h0 := k ev w (by unfold twoJ at hJ; rwa [if_pos ht] at hJ) δ φ
  rw [hg] at h0 ⊢
  dsimp only at h0 ⊢
  refine OpRuns.mono h0 fun v w' ⟨h1, h2, h3⟩ => ⟨(twoJ_set hne).2 (by unfold twoJ; rwa [if_pos ht]), fun j s u _ _ => h2 s u, h3⟩
 have h0 := h ev w (by unfold twoJ at hJ; rwa [if_neg ht] at hJ) δ φ
 rw [hg] at h0 ⊢
 dsimp only at h0 ⊢
 refine OpRuns.mono h0 fun v w' ⟨h1, h2, h3⟩ => ⟨(twoJ_set hne).2 (by unfold twoJ; rwa [if_neg ht]), fun j s u _ _ => h2 s u, h3⟩
theorem OpOkJ.pivot (hg : o.guard = none) (hlt : t < l.length) (h : ∀ (ev : Nat → Value) (w : World), I0 w → (∀ j d, depB l t j = true → dstOf l j = some d → Φ d (ev d) w) → (∀ s, freeB l t s = true → ev s = f0 s) →
  OpRuns P (evalOf ev) o w fun v w' => I1 w' ∧ (∀ j s u, j ≠ t → dstOf l j = some s → Φ s u w → Φ s u w') ∧ ∀ d, o.dst = some d → Φ d v w') : OpOkJ P l f0 (twoJ t I0 I1) Φ t o := by
 intro ev w listed hJ hsz hun hcl δ φ
 have h0 := h ev w (by unfold twoJ at hJ; rwa [if_neg (by rw [hun]; decide)] at hJ) δ φ
 rw [hg]
 dsimp only
 refine OpRuns.mono h0 fun v w' ⟨h1, h2, h3⟩ => ⟨by
  unfold twoJ
  rw [if_pos (by
   have : t < listed.size := by omega
   simp [this])]
  exact h1, fun j s u hj hd => h2 j s u (fun e => by rw [e, hun] at hj; cases hj) hd, h3⟩
end
end Go.Proofs.YtmopjhbfobmklaaGreatDoor
