/-
  Small lemmas: regions that draw their order, memory, numbers and words. The conditions of the contracts are their hypotheses.
-/
import Derived.Orders
import Derived.WalkKit
import Derived.StillTail
import Derived.Test.YtmopjhbfobmklaaGreatDoorProg
import Derived.Lib.Hide
import Derived.Deep.QuietTactic
import Derived.BigQuiet
import Derived.Handy
import Derived.Deep.RegionLawGrows
import Derived.Deep.AppendLies
import Derived.WalkSmall
import Derived.WalkLawsBesides
import Derived.WalkSpells
import Derived.Lib.SmallJoins
import Derived.Lib.Split
import Derived.Lib.SplitLaws
import Derived.Lib.IndexMore
import Derived.Lib.ItoaNum
import Derived.Lib.ItoaLen
import Derived.Lib.ParseIntB
set_option maxRecDepth 100000
set_option maxHeartbeats 40000000
namespace Go.Proofs.YtmopjhbfobmklaaGreatDoor
open Go
def evalOf (ev : Nat → Value) : Operand → Value
 | .tmp t => ev t
 | .const v => v
 | .global g => .pointer (some ⟨g, 0, none⟩)
 | .func f => .func (.func f) #[] #[]
theorem eval_eq (a : Act) : a.eval = evalOf (fun t => a.tmps.getD t undef) := by
 funext x; cases x <;> rfl
def OpRuns (P : Program) (ρ : Operand → Value) (o : Oper) (w : World) (R : Value → World → Prop) : Prop :=
 match (execOp ρ o).run P w with
 | .ok (.value v) w' => R v w'
 | .ok .skip w' => R undef w'
 | .ok (.enter f args) w' => Calls P f args w' fun
   | .returned v, w'' => R v w''
   | _, _ => False
 | _ => False
theorem wp_of_opRuns {P : Program} {a : Act} {o : Oper} {w : World} {R : Value → World → Prop} {K : Act → World → Prop} {Q : Exit → Act → World → Prop}
  (h : OpRuns P a.eval o w R) (hK : ∀ v w', R v w' → K (a.put o.dst v) w') : o.wp P a w K Q := by
 unfold OpRuns at h
 unfold Oper.wp
 generalize (execOp a.eval o).run P w = r at *
 cases r with
 | halt x w' => exact h.elim
 | ok n w' =>
  cases n <;> simp only [Oper.upon] at h ⊢
  case value v => exact hK _ _ h
  case skip => exact hK _ _ h
  case enter f args =>
  refine Calls.mono h fun e w'' he => ?_
  cases e with
  | returned v => exact hK _ _ he
  | panicked c => exact he.elim
  | outgrown => exact he.elim
def dstOf (l : List Oper) (j : Nat) : Option Tmp := (l[j]?).bind (·.dst)
def depB (l : List Oper) (j i : Nat) : Bool := ((l[j]?).map fun o => o.after.any fun e => Region.binds .any e && e.on == i).getD false
def freeB (l : List Oper) (i s : Nat) : Bool := (List.range l.length).all fun j => dstOf l j != some s || j == i || depB l j i
def okB (l : List Oper) (sz : Nat) : Bool :=
  (List.range l.length).all fun i =>
    ((l[i]?).map fun o => o.after.all fun e => !Region.binds .any e || decide (e.on < i)).getD true &&
    (match dstOf l i with
     | none => true
     | some d => decide (d < sz) && (List.range l.length).all fun j => j == i || dstOf l j != some d)
def yieldedEv (l : List Oper) (ev : Nat → Value) (j : Nat) : Option Bool :=
 match dstOf l j with
 | some d => (match ev d with | .bool b => some b | _ => none)
 | none => none
def OpOk (P : Program) (l : List Oper) (f0 : Nat → Value) (I : World → Prop) (Φ : Nat → Value → World → Prop) (i : Nat) (o : Oper) : Prop :=
 ∀ (ev : Nat → Value) (w : World), I w → (∀ j d, depB l i j = true → dstOf l j = some d → Φ d (ev d) w) → (∀ s, freeB l i s = true → ev s = f0 s) →
  match o.guard with
  | none => OpRuns P (evalOf ev) o w fun v w' => I w' ∧ (∀ s u, Φ s u w → Φ s u w') ∧ ∀ d, o.dst = some d → Φ d v w'
  | some (j, want) =>
   (yieldedEv l ev j = some want → OpRuns P (evalOf ev) o w fun v w' => I w' ∧ (∀ s u, Φ s u w → Φ s u w') ∧ ∀ d, o.dst = some d → Φ d v w') ∧
   (yieldedEv l ev j ≠ some want → ∀ d, o.dst = some d → Φ d undef w)
theorem ν {a b : Nat} {P : Prop} (h : (a == b) = false) : a = b → P := fun e => absurd e (by simpa using h)
theorem ι {p : Prop} (h : p) : Go.RowKit.Hid p := h
def AllOps (p : Nat → Oper → Prop) : Nat → List Oper → Prop
 | _, [] => True
 | k, o :: r => p k o ∧ AllOps p (k + 1) r
theorem AllOps.get {p : Nat → Oper → Prop} : ∀ {l : List Oper} {k : Nat}, AllOps p k l → ∀ j o, l[j]? = some o → p (k + j) o
 | [], _, _, j, o, h => by simp at h
 | x :: l, k, h, 0, o, ho => by simp at ho; subst ho; exact h.1
 | x :: l, k, h, j + 1, o, ho => by
  have := AllOps.get (l := l) h.2 j o (by simpa using ho)
  rwa [show k + (j + 1) = k + 1 + j by omega]
structure SInv (l : List Oper) (a0 : Act) (I : World → Prop) (Φ : Nat → Value → World → Prop) (listed : Array Bool) (a : Act) (w : World) : Prop where
 size : listed.size = l.length
 closed : ∀ j i, listed.getD j false = true → depB l j i = true → listed.getD i false = true
 inv : I w
 defers : a.defers = a0.defers
 tsize : a.tmps.size = a0.tmps.size
 vals : ∀ j d, listed.getD j false = true → dstOf l j = some d → Φ d (a.tmps.getD d undef) w
 kept : ∀ s, (∀ j, listed.getD j false = true → dstOf l j ≠ some s) → a.tmps.getD s undef = a0.tmps.getD s undef
theorem okB_spec {l : List Oper} {sz : Nat} (h : okB l sz = true) {i : Nat} {o : Oper} (hi : l[i]? = some o) :
  (∀ e ∈ o.after, Region.binds .any e = true → e.on < i) ∧ (∀ d, o.dst = some d → d < sz ∧ ∀ j, j ≠ i → dstOf l j ≠ some d) := by
 have hlt : i < l.length := (List.getElem?_eq_some_iff.1 hi).1
 have h1 := List.all_eq_true.1 h i (List.mem_range.2 hlt)
 simp only [hi, Option.map_some, Option.getD_some, Bool.and_eq_true, dstOf, Option.bind_some] at h1
 obtain ⟨h1, h2⟩ := h1
 refine ⟨fun e he hb => ?_, fun d hd => ?_⟩
 ·have := Array.all_eq_true_iff_forall_mem.1 h1 e he
  simpa [hb] using this
 rw [hd] at h2
 simp only [Bool.and_eq_true, decide_eq_true_eq] at h2
 refine ⟨h2.1, fun j hj hdj => ?_⟩
 have hjl : j < l.length := by
  rcases Nat.lt_or_ge j l.length with h' | h'
  ·exact h'
  simp [dstOf, List.getElem?_eq_none h'] at hdj
 have := List.all_eq_true.1 h2.2 j (List.mem_range.2 hjl)
 unfold dstOf at hdj
 simp [hdj, hj] at this
theorem depB_spec {l : List Oper} {j i : Nat} : depB l j i = true ↔ ∃ o, l[j]? = some o ∧ ∃ e ∈ o.after, Region.binds .any e = true ∧ e.on = i := by
 unfold depB
 cases h : l[j]? with
 | none => simp
 | some o =>
  simp only [Option.map_some, Option.getD_some, Option.some.injEq, exists_eq_left']
  rw [Array.any_eq_true']
  constructor
  ·rintro ⟨e, he, hb⟩
   simp only [Bool.and_eq_true, beq_iff_eq] at hb
   exact ⟨e, he, hb.1, hb.2⟩
  rintro ⟨e, he, hb, hon⟩
  exact ⟨e, he, by simp [hb, hon]⟩
theorem getD_put {a : Act} {d : Tmp} {v : Value} {s : Nat} (hd : d < a.tmps.size) : (a.put (some d) v).tmps.getD s undef = if s = d then v else a.tmps.getD s undef := by
 simp only [Act.put, Array.getD_eq_getD_getElem?, Array.getElem?_setIfInBounds]
 by_cases h : s = d
 ·subst h; simp [hd]
 simp [h, Ne.symm h]
theorem wp_region_spec {P : Program} {id : Nat} {l : List Oper} {Q : Exit → Act → World → Prop} {a0 : Act} {w0 : World}
  (hm : P.follows .mixedOrders = true) (I : World → Prop) (Φ : Nat → Value → World → Prop) (sz : Nat) (hsz : a0.tmps.size = sz) (hok : okB l sz = true)
  (hI : I { w0 with drawn := w0.drawn + 1 })
  (hops : AllOps (OpOk P l (fun s => a0.tmps.getD s undef) I Φ) 0 l)
  (hend : ∀ (a : Act) (w : World), a.defers = a0.defers → a.tmps.size = a0.tmps.size → I w → (∀ j d, dstOf l j = some d → Φ d (a.tmps.getD d undef) w) →
   (∀ s, (∀ j, dstOf l j ≠ some s) → a.tmps.getD s undef = a0.tmps.getD s undef) → Q .normal a w) :
  (Code.region id l.toArray true).wp P Q a0 w0 := by
 subst hsz
 refine wp_region_any hm ?_
 have key : ∀ (fuel : Nat) (listed : Array Bool) (a : Act) (w : World), SInv l a0 I Φ listed a w →
   (∀ (k : Nat), k = fuel → ((List.range l.length).filter fun i => !listed.getD i true).length ≤ k → wpAny P .any l.toArray Q fuel listed a w) := by
  have allListed : ∀ (listed : Array Bool), listed.size = l.length → Region.ready .any l.toArray listed = [] → ∀ i, i < l.length → listed.getD i false = true := by
   intro listed hs hr i
   induction i using Nat.strongRecOn with
   | _ i ih =>
    intro hi
    cases hl : listed.getD i false with
    | true => rfl
    | false =>
     exfalso
     have hun : listed.getD i true = false := by
      have : i < listed.size := by omega
      simp [this] at hl ⊢; exact hl
     obtain ⟨o, ho⟩ : ∃ o, l[i]? = some o := ⟨l[i], List.getElem?_eq_getElem hi⟩
     have hmem : i ∈ Region.ready .any l.toArray listed := by
      rw [mem_ready]
      refine ⟨hun, o, by simpa using ho, fun e he hb => ?_⟩
      have hlt := (okB_spec hok ho).1 e he hb
      exact ih e.on hlt (by omega)
     rw [hr] at hmem
     cases hmem
  have final : ∀ (listed : Array Bool) (a : Act) (w : World), SInv l a0 I Φ listed a w → Region.ready .any l.toArray listed = [] → Q .normal a w := by
   intro listed a w inv hr
   have hall := allListed listed inv.size hr
   have hdl : ∀ j d, dstOf l j = some d → listed.getD j false = true := fun j d hd => hall j (by
    rcases Nat.lt_or_ge j l.length with h' | h'
    ·exact h'
    simp [dstOf, List.getElem?_eq_none h'] at hd)
   exact hend a w inv.defers inv.tsize inv.inv (fun j d hd => inv.vals j d (hdl j d hd) hd) (fun s hs => inv.kept s fun j _ => hs j)
  intro fuel
  induction fuel with
  | zero =>
   intro listed a w inv k hk hc
   have hr : Region.ready .any l.toArray listed = [] := by
    subst hk
    have h0 : (List.range l.length).filter (fun i => !listed.getD i true) = [] := List.eq_nil_of_length_eq_zero (by omega)
    refine List.eq_nil_iff_forall_not_mem.2 fun i hi => ?_
    obtain ⟨hun, o, ho, _⟩ := mem_ready.1 hi
    have hlt : i < l.length := by simpa using (Array.getElem?_eq_some_iff.1 ho).1
    have : i ∈ (List.range l.length).filter (fun i => !listed.getD i true) := List.mem_filter.2 ⟨List.mem_range.2 hlt, by simp [hun]⟩
    rw [h0] at this
    cases this
   exact ⟨hr, final listed a w inv hr⟩
  | succ fuel ih =>
   intro listed a w inv k hk hc
   refine ⟨final listed a w inv, fun i hi => ?_⟩
   obtain ⟨hun, o, ho, δ⟩ := mem_ready.1 hi
   have ho' : l[i]? = some o := by simpa using ho
   have hlt : i < l.length := (List.getElem?_eq_some_iff.1 ho').1
   have hunf : listed.getD i false = false := by
    have : i < listed.size := by rw [inv.size]; exact hlt
    simp [this] at hun ⊢; exact hun
   have hop := hops.get i o ho'
   rw [Nat.zero_add] at hop
   have hdeps : ∀ j, depB l i j = true → listed.getD j false = true := by
    intro j hj
    obtain ⟨o2, ho2, e, he, hb, hon⟩ := depB_spec.1 hj
    have : o2 = o := Option.some.inj (ho2.symm.trans ho')
    subst this
    have := δ e he hb
    rwa [hon] at this
   have hop' := hop (fun t => a.tmps.getD t undef) w inv.inv (fun j d hj hd => inv.vals j d (hdeps j hj) hd) (fun s hs => inv.kept s fun j hj hd => by
    have hjl : j < l.length := by
     rcases Nat.lt_or_ge j l.length with h' | h'
     ·exact h'
     simp [dstOf, List.getElem?_eq_none h'] at hd
    have h1 := List.all_eq_true.1 hs j (List.mem_range.2 hjl)
    simp only [hd, bne_self_eq_false, Bool.false_or, Bool.or_eq_true, beq_iff_eq] at h1
    rcases h1 with h1 | h1
    ·subst h1; rw [hunf] at hj; cases hj
    have := inv.closed j i hj h1
    rw [hunf] at this
    cases this)
   -- the new invariant
   have hnew : ∀ v w', (I w' ∧ (∀ s u, Φ s u w → Φ s u w') ∧ ∀ d, o.dst = some d → Φ d v w') → SInv l a0 I Φ (listed.setIfInBounds i true) (a.put o.dst v) w' := by
    rintro v w' ⟨hI', hst, hv⟩
    have hlisted : ∀ j, (listed.setIfInBounds i true).getD j false = true ↔ (j = i ∨ listed.getD j false = true) := by
     intro j
     by_cases hji : j = i
     ·subst hji
      have : j < listed.size := by rw [inv.size]; exact hlt
      simp [this]
     rw [getD_set_ne false (Ne.symm hji)]; simp [hji]
    have hspec := okB_spec hok ho'
    have hgd : ∀ s, (a.put o.dst v).tmps.getD s undef = if o.dst = some s then v else a.tmps.getD s undef := by
     intro s
     cases hd : o.dst with
     | none => simp [Act.put]
     | some d =>
      have hdl := (hspec.2 d hd).1
      rw [getD_put (by rw [inv.tsize]; exact hdl)]
      by_cases h : s = d
      ·simp [h]
      simp [h, Ne.symm h]
    refine ⟨by simp [inv.size], fun j k hj hk => ?_, hI', by cases o.dst <;> exact inv.defers, by cases o.dst <;> simp [Act.put, inv.tsize], fun j d hj hd => ?_, fun s hs => ?_⟩
    ·rw [hlisted] at hj ⊢
     rcases hj with rfl | hj
     ·exact .inr (hdeps k hk)
     exact .inr (inv.closed j k hj hk)
    ·rw [hlisted] at hj
     rw [hgd]
     by_cases hji : j = i
     ·subst hji
      have : o.dst = some d := by simpa [dstOf, ho'] using hd
      rw [if_pos this]
      exact hv d this
     have hj' := hj.resolve_left hji
     have hne : o.dst ≠ some d := fun h => (hspec.2 d h).2 j hji hd
     rw [if_neg hne]
     exact hst _ _ (inv.vals j d hj' hd)
    rw [hgd]
    have hne : o.dst ≠ some s := fun h => hs i ((hlisted i).2 (.inl rfl)) (by simp [dstOf, ho', h])
    rw [if_neg hne]
    exact inv.kept s fun j hj => hs j ((hlisted j).2 (.inr hj))
   have hcount : ((List.range l.length).filter fun j => !(listed.setIfInBounds i true).getD j true).length ≤ fuel := by
    have hsub : ∀ (xs : List Nat), xs.Nodup → i ∈ xs → (xs.filter fun j => !(listed.setIfInBounds i true).getD j true).length + 1 ≤ (xs.filter fun j => !listed.getD j true).length := by
     intro xs
     induction xs with
     | nil => intro _ h; cases h
     | cons x xs ihx =>
      intro hnd hmem
      have hi' : i < listed.size := by rw [inv.size]; exact hlt
      by_cases hxi : x = i
      ·subst hxi
       have hnot : x ∉ xs := (List.nodup_cons.1 hnd).1
       have heq : xs.filter (fun j => !(listed.setIfInBounds x true).getD j true) = xs.filter (fun j => !listed.getD j true) := by
        refine List.filter_congr fun j hj => ?_
        rw [getD_set_ne true (fun h => hnot (by rw [h]; exact hj))]
       have h1 : (!(listed.setIfInBounds x true).getD x true) = false := by simp [hi']
       have h2 : (!listed.getD x true) = true := by rw [hun]; rfl
       rw [List.filter_cons, List.filter_cons, h1, h2, heq]
       simp
      have := ihx (List.nodup_cons.1 hnd).2 (List.mem_of_ne_of_mem (Ne.symm hxi) hmem)
      have h1 : (listed.setIfInBounds i true).getD x true = listed.getD x true := getD_set_ne true (Ne.symm hxi)
      rw [List.filter_cons, List.filter_cons, h1]
      split <;> (try simp only [List.length_cons]) <;> omega
    have := hsub (List.range l.length) List.nodup_range (List.mem_range.2 hlt)
    omega
   have goOn : ∀ v w', (I w' ∧ (∀ s u, Φ s u w → Φ s u w') ∧ ∀ d, o.dst = some d → Φ d v w') → wpAny P .any l.toArray Q fuel (listed.setIfInBounds i true) (a.put o.dst v) w' :=
    fun v w' h => ih _ _ _ (hnew v w' h) fuel rfl hcount
   unfold wpOp
   rw [ho]
   dsimp only
   cases hg : o.guard with
   | none =>
    rw [hg] at hop'
    dsimp only at hop'
    rw [if_pos (by simp [Region.wanted, hg])]
    exact .inl (wp_of_opRuns (by rw [eval_eq]; exact hop') goOn)
   | some gw =>
    obtain ⟨g, want⟩ := gw
    rw [hg] at hop'
    dsimp only at hop'
    have hy : ∀ b, yielded l.toArray a.tmps g = some b ↔ yieldedEv l (fun t => a.tmps.getD t undef) g = some b := by
     intro b
     unfold yielded yieldedEv dstOf
     simp only [List.getElem?_toArray]
     cases hd : (l[g]?).bind (·.dst) with
     | none => simp
     | some d =>
      simp only [Option.bind_some]
      rcases Nat.lt_or_ge d a.tmps.size with h' | h'
      ·simp [Array.getD_eq_getD_getElem?, h']
       cases a.tmps[d] <;> exact Iff.rfl
      simp [Array.getD_eq_getD_getElem?, Array.getElem?_eq_none h', undef]
    by_cases hw : yieldedEv l (fun t => a.tmps.getD t undef) g = some want
    ·rw [if_pos (by simp [Region.wanted, hg, (hy want).2 hw])]
     exact .inl (wp_of_opRuns (by rw [eval_eq]; exact hop'.1 hw) goOn)
    rw [if_neg (by
     simp only [Region.wanted, hg, beq_iff_eq]
     exact fun h => hw ((hy want).1 h))]
    exact goOn _ _ ⟨inv.inv, fun _ _ h => h, hop'.2 hw⟩
 refine key l.toArray.size (Array.replicate l.toArray.size false) a0 _ ?_ _ rfl (by
  refine Nat.le_trans (List.length_filter_le _ _) (by simp))
 have hf : ∀ j, (Array.replicate l.toArray.size false).getD j false = true → False := fun j h => by
  simp only [Array.getD_eq_getD_getElem?, Array.getElem?_replicate] at h
  split at h <;> simp at h
 exact ⟨by simp, fun j i h => (hf j h).elim, hI, rfl, rfl, fun j d h => (hf j h).elim, fun _ _ => rfl⟩
def getDs (t : Array Value) : Nat → Nat → List Value
 | 0, _ => []
 | n + 1, k => t.getD k undef :: getDs t n (k + 1)
theorem getDs_eq (t : Array Value) : ∀ (n k : Nat), t.size = k + n → t.toList.drop k = getDs t n k
 | 0, k, h => by simp [getDs]; omega
 | n + 1, k, h => by
  have hk : k < t.size := by omega
  rw [getDs, ← getDs_eq t n (k + 1) (by omega), List.drop_eq_getElem_cons (by simpa using hk)]
  simp [Array.getD_eq_getD_getElem?, hk]
theorem act_lit {a : Act} {n : Nat} {ds : List Deferred} (hs : a.tmps.size = n) (hd : a.defers = ds) : a = { tmps := (getDs a.tmps n 0).toArray, defers := ds } := by
 have h := getDs_eq a.tmps n 0 (by omega)
 rw [List.drop_zero] at h
 rw [← h, ← hd]
structure HInv (l : List Oper) (n : Nat) (a0 : Act) (I : World → Prop) (Φ : Nat → Value → World → Prop) (listed : Array Bool) (a : Act) (w : World) : Prop extends SInv l a0 I Φ listed a w where
 tail : ∀ t, n ≤ t → t < l.length → listed.getD t true = false
theorem HInv.headInv {l : List Oper} {n : Nat} {a0 : Act} {I : World → Prop} {Φ : Nat → Value → World → Prop} {listed : Array Bool} {a : Act} {w : World} (h : HInv l n a0 I Φ listed a w) : HeadInv .any l.toArray n listed :=
 ⟨by simpa using h.size, fun j oj hj hl e he hb => h.closed j e.on hl (depB_spec.2 ⟨oj, by simpa using hj, e, he, hb, rfl⟩), fun t ht ht' => h.tail t ht (by simpa using ht')⟩
theorem wp_region_spec_tail {P : Program} {id : Nat} {l : List Oper} {Q : Exit → Act → World → Prop} {a0 : Act} {w0 : World} (n : Nat)
  (hm : P.follows .mixedOrders = true) (I : World → Prop) (Φ : Nat → Value → World → Prop) (sz : Nat) (hsz : a0.tmps.size = sz) (hok : okB l sz = true)
  (hn : decide (n < l.length) = true) (hs : Region.sinkB .any l.toArray n = true) (hc : Region.chainB .any l.toArray n = true)
  (hq : Region.seqB .any l.toArray (l.length - n) n ((List.replicate n true ++ List.replicate (l.length - n) false).toArray) = true)
  (hI : I { w0 with drawn := w0.drawn + 1 })
  (hops : AllOps (OpOk P l (fun s => a0.tmps.getD s undef) I Φ) 0 (l.take n))
  (hend : ∀ (a : Act) (w : World), a.defers = a0.defers → a.tmps.size = a0.tmps.size → I w → (∀ j d, j < n → dstOf l j = some d → Φ d (a.tmps.getD d undef) w) →
   (∀ s, (∀ j, j < n → dstOf l j ≠ some s) → a.tmps.getD s undef = a0.tmps.getD s undef) → wpList P l.toArray Q (l.drop n) a w) :
  (Code.region id l.toArray true).wp P Q a0 w0 := by
 subst hsz
 have hn := of_decide_eq_true hn
 refine wp_region_any hm ?_
 have hlt_of : ∀ j d, dstOf l j = some d → j < l.length := fun j d hd => by
  rcases Nat.lt_or_ge j l.length with h' | h'
  ·exact h'
  simp [dstOf, List.getElem?_eq_none h'] at hd
 have listed_lt : ∀ {listed : Array Bool} {a : Act} {w : World}, HInv l n a0 I Φ listed a w → ∀ j, listed.getD j false = true → j < n := by
  intro listed a w inv j hj
  rcases Nat.lt_or_ge j n with h | h
  ·exact h
  rcases Nat.lt_or_ge j l.length with h' | h'
  ·have := inv.tail j h h'
   have hjs : j < listed.size := by rw [inv.size]; exact h'
   simp [hjs] at this hj
   rw [this] at hj; cases hj
  have hjs : ¬ j < listed.size := by rw [inv.size]; omega
  simp [hjs] at hj
 have key : ∀ (f : Nat) (listed : Array Bool) (a : Act) (w : World), HInv l n a0 I Φ listed a w →
   ((List.range n).filter fun i => !listed.getD i true).length = f → wpAny P .any l.toArray Q (f + (l.length - n)) listed a w := by
  intro f
  induction f with
  | zero =>
   intro listed a w inv h0
   have h0 : (List.range n).filter (fun i => !listed.getD i true) = [] := List.eq_nil_of_length_eq_zero h0
   have hall : ∀ i, i < n → listed.getD i false = true := by
    intro i hi
    cases hl : listed.getD i false with
    | true => rfl
    | false =>
     have his : i < listed.size := by rw [inv.size]; omega
     have hun := getD_in his hl
     have : i ∈ (List.range n).filter (fun i => !listed.getD i true) := List.mem_filter.2 ⟨List.mem_range.2 hi, by rw [hun]; rfl⟩
     rw [h0] at this
     cases this
   have hl : listed = (List.replicate n true ++ List.replicate (l.length - n) false).toArray := by
    refine Array.ext (by rw [inv.size]; simp; omega) fun i h1 h2 => ?_
    rcases Nat.lt_or_ge i n with h | h
    ·have := hall i h
     simp [h1] at this
     simp [this, h]
    have := inv.tail i h (by rw [← inv.size]; exact h1)
    simp [h1] at this
    simp [this, List.getElem_append, Nat.not_lt.2 h]
   rw [Nat.zero_add]
   have hd : (l.drop n).length = l.length - n := by simp
   have := wpAny_of_seq (md := .any) (Q' := Q) (P := P) (ops := l.toArray) (l.drop n) n listed a w (fun j => by simp [List.getElem?_drop]) (by rw [hd, hl]; exact hq)
    (hend a w inv.defers inv.tsize inv.inv (fun j d hj hd => inv.vals j d (hall j hj) hd) (fun s hs => inv.kept s fun j hj => hs j (listed_lt inv j hj)))
   rwa [hd] at this
  | succ f ih =>
   intro listed a w inv hf
   rw [show f + 1 + (l.length - n) = (f + (l.length - n)) + 1 by omega]
   have hready : ∀ i ∈ Region.ready .any l.toArray listed, i < n := by
    intro i hi
    rcases Nat.lt_or_ge i n with h | h
    ·exact h
    exfalso
    obtain ⟨j, hj⟩ : ∃ j, j ∈ (List.range n).filter (fun i => !listed.getD i true) := by
     cases hx : (List.range n).filter (fun i => !listed.getD i true) with
     | nil => rw [hx] at hf; cases hf
     | cons x xs => exact ⟨x, List.mem_cons_self⟩
    obtain ⟨hj1, hj2⟩ := List.mem_filter.1 hj
    exact tail_waits (md := .any) hs hc (by simpa using hn) inv.headInv _ j rfl (List.mem_range.1 hj1) (by simpa using hj2) i h hi
   have some_ready : Region.ready .any l.toArray listed ≠ [] := by
    intro hr
    have allL : ∀ i, i < n → listed.getD i false = true := by
     intro i
     induction i using Nat.strongRecOn with
     | _ i ihi =>
      intro hi
      cases hl : listed.getD i false with
      | true => rfl
      | false =>
       exfalso
       have his : i < listed.size := by rw [inv.size]; omega
       have hun := getD_in his hl
       obtain ⟨o, ho⟩ : ∃ o, l[i]? = some o := ⟨l[i]'(by omega), List.getElem?_eq_getElem (by omega)⟩
       have hmem : i ∈ Region.ready .any l.toArray listed := by
        rw [mem_ready]
        exact ⟨hun, o, by simpa using ho, fun e he hb => ihi e.on ((okB_spec hok ho).1 e he hb) (by have := (okB_spec hok ho).1 e he hb; omega)⟩
       rw [hr] at hmem
       cases hmem
    have : (List.range n).filter (fun i => !listed.getD i true) = [] := by
     refine List.filter_eq_nil_iff.2 fun i hi => ?_
     have his : i < listed.size := by rw [inv.size]; have := List.mem_range.1 hi; omega
     have := allL i (List.mem_range.1 hi)
     simp [his] at this
     simp [his, this]
    rw [this] at hf
    cases hf
   refine ⟨fun hr => absurd hr some_ready, fun i hi => ?_⟩
   have hin := hready i hi
   obtain ⟨hun, o, ho, δ⟩ := mem_ready.1 hi
   have ho' : l[i]? = some o := by simpa using ho
   have hlt : i < l.length := (List.getElem?_eq_some_iff.1 ho').1
   have hunf : listed.getD i false = false := by
    have : i < listed.size := by rw [inv.size]; exact hlt
    simp [this] at hun ⊢; exact hun
   have hop := hops.get i o (by rw [List.getElem?_take, if_pos hin]; exact ho')
   rw [Nat.zero_add] at hop
   have hdeps : ∀ j, depB l i j = true → listed.getD j false = true := by
    intro j hj
    obtain ⟨o2, ho2, e, he, hb, hon⟩ := depB_spec.1 hj
    have : o2 = o := Option.some.inj (ho2.symm.trans ho')
    subst this
    have := δ e he hb
    rwa [hon] at this
   have hop' := hop (fun t => a.tmps.getD t undef) w inv.inv (fun j d hj hd => inv.vals j d (hdeps j hj) hd) (fun s hs => inv.kept s fun j hj hd => by
    have hjl := hlt_of j s hd
    have h1 := List.all_eq_true.1 hs j (List.mem_range.2 hjl)
    simp only [hd, bne_self_eq_false, Bool.false_or, Bool.or_eq_true, beq_iff_eq] at h1
    rcases h1 with h1 | h1
    ·subst h1; rw [hunf] at hj; cases hj
    have := inv.closed j i hj h1
    rw [hunf] at this
    cases this)
   have hnew : ∀ v w', (I w' ∧ (∀ s u, Φ s u w → Φ s u w') ∧ ∀ d, o.dst = some d → Φ d v w') → HInv l n a0 I Φ (listed.setIfInBounds i true) (a.put o.dst v) w' := by
    rintro v w' ⟨hI', hst, hv⟩
    have hlisted : ∀ j, (listed.setIfInBounds i true).getD j false = true ↔ (j = i ∨ listed.getD j false = true) := by
     intro j
     by_cases hji : j = i
     ·subst hji
      have : j < listed.size := by rw [inv.size]; exact hlt
      simp [this]
     rw [getD_set_ne false (Ne.symm hji)]; simp [hji]
    have hspec := okB_spec hok ho'
    have hgd : ∀ s, (a.put o.dst v).tmps.getD s undef = if o.dst = some s then v else a.tmps.getD s undef := by
     intro s
     cases hd : o.dst with
     | none => simp [Act.put]
     | some d =>
      have hdl := (hspec.2 d hd).1
      rw [getD_put (by rw [inv.tsize]; exact hdl)]
      by_cases h : s = d
      ·simp [h]
      simp [h, Ne.symm h]
    refine ⟨⟨by simp [inv.size], fun j k hj hk => ?_, hI', by cases o.dst <;> exact inv.defers, by cases o.dst <;> simp [Act.put, inv.tsize], fun j d hj hd => ?_, fun s hs => ?_⟩, fun t ht ht' => by rw [getD_set_ne true (by omega)]; exact inv.tail t ht ht'⟩
    ·rw [hlisted] at hj ⊢
     rcases hj with rfl | hj
     ·exact .inr (hdeps k hk)
     exact .inr (inv.closed j k hj hk)
    ·rw [hlisted] at hj
     rw [hgd]
     by_cases hji : j = i
     ·subst hji
      have : o.dst = some d := by simpa [dstOf, ho'] using hd
      rw [if_pos this]
      exact hv d this
     have hj' := hj.resolve_left hji
     have hne : o.dst ≠ some d := fun h => (hspec.2 d h).2 j hji hd
     rw [if_neg hne]
     exact hst _ _ (inv.vals j d hj' hd)
    rw [hgd]
    have hne : o.dst ≠ some s := fun h => hs i ((hlisted i).2 (.inl rfl)) (by simp [dstOf, ho', h])
    rw [if_neg hne]
    exact inv.kept s fun j hj => hs j ((hlisted j).2 (.inr hj))
   have hcount : ((List.range n).filter fun j => !(listed.setIfInBounds i true).getD j true).length = f := by
    have hsub : ∀ (xs : List Nat), xs.Nodup → i ∈ xs → (xs.filter fun j => !(listed.setIfInBounds i true).getD j true).length + 1 = (xs.filter fun j => !listed.getD j true).length := by
     intro xs
     induction xs with
     | nil => intro _ h; cases h
     | cons x xs ihx =>
      intro hnd hmem
      have hi' : i < listed.size := by rw [inv.size]; exact hlt
      by_cases hxi : x = i
      ·subst hxi
       have hnot : x ∉ xs := (List.nodup_cons.1 hnd).1
       have heq : xs.filter (fun j => !(listed.setIfInBounds x true).getD j true) = xs.filter (fun j => !listed.getD j true) := by
        refine List.filter_congr fun j hj => ?_
        rw [getD_set_ne true (fun h => hnot (by rw [h]; exact hj))]
       have h1 : (!(listed.setIfInBounds x true).getD x true) = false := by simp [hi']
       have h2 : (!listed.getD x true) = true := by rw [hun]; rfl
       rw [List.filter_cons, List.filter_cons, h1, h2, heq]
       simp
      have := ihx (List.nodup_cons.1 hnd).2 (List.mem_of_ne_of_mem (Ne.symm hxi) hmem)
      have h1 : (listed.setIfInBounds i true).getD x true = listed.getD x true := getD_set_ne true (Ne.symm hxi)
      rw [List.filter_cons, List.filter_cons, h1]
      split <;> (try simp only [List.length_cons]) <;> omega
    have := hsub (List.range n) List.nodup_range (List.mem_range.2 hin)
    omega
   have goOn : ∀ v w', (I w' ∧ (∀ s u, Φ s u w → Φ s u w') ∧ ∀ d, o.dst = some d → Φ d v w') → wpAny P .any l.toArray Q (f + (l.length - n)) (listed.setIfInBounds i true) (a.put o.dst v) w' :=
    fun v w' h => ih _ _ _ (hnew v w' h) hcount
   unfold wpOp
   rw [ho]
   dsimp only
   cases hg : o.guard with
   | none =>
    rw [hg] at hop'
    dsimp only at hop'
    rw [if_pos (by simp [Region.wanted, hg])]
    exact .inl (wp_of_opRuns (by rw [eval_eq]; exact hop') goOn)
   | some gw =>
    obtain ⟨g, want⟩ := gw
    rw [hg] at hop'
    dsimp only at hop'
    have hy : ∀ b, yielded l.toArray a.tmps g = some b ↔ yieldedEv l (fun t => a.tmps.getD t undef) g = some b := by
     intro b
     unfold yielded yieldedEv dstOf
     simp only [List.getElem?_toArray]
     cases hd : (l[g]?).bind (·.dst) with
     | none => simp
     | some d =>
      simp only [Option.bind_some]
      rcases Nat.lt_or_ge d a.tmps.size with h' | h'
      ·simp [Array.getD_eq_getD_getElem?, h']
       cases a.tmps[d] <;> exact Iff.rfl
      simp [Array.getD_eq_getD_getElem?, Array.getElem?_eq_none h', undef]
    by_cases hw : yieldedEv l (fun t => a.tmps.getD t undef) g = some want
    ·rw [if_pos (by simp [Region.wanted, hg, (hy want).2 hw])]
     exact .inl (wp_of_opRuns (by rw [eval_eq]; exact hop'.1 hw) goOn)
    rw [if_neg (by
     simp only [Region.wanted, hg, beq_iff_eq]
     exact fun h => hw ((hy want).1 h))]
    exact goOn _ _ ⟨inv.inv, fun _ _ h => h, hop'.2 hw⟩
 have hf : ∀ j, (Array.replicate l.toArray.size false).getD j false = true → False := fun j h => by
  simp only [Array.getD_eq_getD_getElem?, Array.getElem?_replicate] at h
  split at h <;> simp at h
 have h0 : HInv l n a0 I Φ (Array.replicate l.toArray.size false) a0 { w0 with drawn := w0.drawn + 1 } :=
  ⟨⟨by simp, fun j i h => (hf j h).elim, hI, rfl, rfl, fun j d h => (hf j h).elim, fun _ _ => rfl⟩, fun t _ ht => getD_in (by simpa using ht) (getD_replicate_false _ _)⟩
 have := key n _ a0 _ h0 (by
  rw [List.filter_eq_self.2]
  ·simp
  intro i hi
  have hi := List.mem_range.1 hi
  rw [getD_in (by simp; omega) (getD_replicate_false _ _)]
  rfl)
 rw [show n + (l.length - n) = l.toArray.size by simp; omega] at this
 exact this
end Go.Proofs.YtmopjhbfobmklaaGreatDoor
namespace Go.Proofs.YtmopjhbfobmklaaGreatDoor
open Go.RowKit
set_option linter.unusedVariables false
def CellsAt (w : World) (g : Nat) : Nat → List Value → Prop
 | _, [] => True
 | k, a :: l => w.cell? ⟨g, k, none⟩ = some a ∧ CellsAt w g (k + 1) l
theorem CellsAt.all {w : World} {g : Nat} : ∀ {l : List Value} {k : Nat}, CellsAt w g k l → ∀ j u, l[j]? = some u → w.cell? ((⟨g, k, none⟩ : Addr).add j) = some u
 | [], _, _, j, u, hu => by simp at hu
 | a :: l, k, h, 0, u, hu => by rw [Addr.add_lit]; simp at hu; subst hu; exact h.1
 | a :: l, k, h, j + 1, u, hu => by
  have := CellsAt.all (l := l) h.2 j u (by simpa using hu)
  rw [Addr.add_lit] at this ⊢
  rw [show k + (j + 1) = k + 1 + j by omega]; exact this
theorem CellsAt.of_all {w : World} {g : Nat} : ∀ {l : List Value} {k : Nat}, (∀ j u, l[j]? = some u → w.cell? ((⟨g, k, none⟩ : Addr).add j) = some u) → CellsAt w g k l
 | [], _, _ => trivial
 | a :: l, k, h => ⟨by have := h 0 a rfl; rwa [Addr.add_lit] at this, CellsAt.of_all (l := l) fun j u hu => by
   have := h (j + 1) u (by simpa using hu)
   rw [Addr.add_lit] at this ⊢
   rw [show k + 1 + j = k + (j + 1) by omega]; exact this⟩
theorem CellsAt.grown {w w' : World} {g : Nat} (hg : w.grownBy w' none) : ∀ {l : List Value} {k : Nat}, CellsAt w g k l → CellsAt w' g k l
 | [], _, _ => trivial
 | _ :: l, _, h => ⟨hg.cell h.1 (by simp), CellsAt.grown hg (l := l) h.2⟩
theorem CellsAt.below {w w' : World} {B g : Nat} (hb : Below B w w') (hg : g < B) : ∀ {l : List Value} {k : Nat}, CellsAt w g k l → CellsAt w' g k l
 | [], _, _ => trivial
 | _ :: l, _, h => ⟨by rw [hb.cell hg]; exact h.1, CellsAt.below hb hg (l := l) h.2⟩
theorem ownsRow_mono {w : World} {b b' : Nat} {e : TypeId} {size : Nat} {v : Value} {n : Nat} {xs : List Value} (h : w.ownsRow b e size v n xs) (hb : b' ≤ b) : w.ownsRow b' e size v n xs :=
 ⟨h.1, h.2.imp id fun ⟨g, cap, cur, hv, hg, r⟩ => ⟨g, cap, cur, hv, Nat.le_trans hb hg, r⟩⟩
theorem ownsRow_below {w w' : World} {b B : Nat} {e : TypeId} {size : Nat} {v : Value} {n : Nat} {xs : List Value} (h : w.ownsRow b e size v n xs) (hb : Below B w w') (hB : w.heap.size ≤ B) : w'.ownsRow b e size v n xs := by
 refine ⟨h.1, h.2.imp id ?_⟩
 rintro ⟨g, cap, cur, rfl, hg, hh, r⟩
 have hlt : g < w.heap.size := (Array.getElem?_eq_some_iff.1 hh).1
 exact ⟨g, cap, cur, rfl, hg, (hb.block g (by omega)).trans hh, r⟩
theorem heap_at {n : Nat} (w : World) (o : Obj) (h : n = w.heap.size) : (w.alloc o).heap[n]? = some o := by
 subst h; exact heap_alloc_new w o
theorem runs_call {P : Program} {ρ : Operand → Value} {o : Oper} {w : World} {R : Value → World → Prop} {f : FuncId} {args : Array Value}
  (hr : (execOp ρ o).run P w = .ok (.enter f args) w) (hc : Calls P f args w fun e w' => ∃ v, e = .returned v ∧ R v w') : OpRuns P ρ o w R := by
 unfold OpRuns
 rw [hr]
 exact hc.mono fun e w' ⟨v, he, h⟩ => by subst he; exact h
def RowAt (w : World) (A : Option Addr) (xs : List Value) : Prop :=
 ∀ k u, xs[k]? = some u → ∃ b o, A = some ⟨b, o, none⟩ ∧ w.cell? ⟨b, o + k, none⟩ = some u
theorem RowAt.get {w : World} {A : Option Addr} {xs : List Value} (h : RowAt w A xs) {k : Nat} (hk : k < xs.length) : ∃ b o, A = some ⟨b, o, none⟩ ∧ w.cell? ⟨b, o + k, none⟩ = some xs[k] :=
 h k _ (List.getElem?_eq_getElem hk)
theorem RowAt.ext {w w' : World} {A : Option Addr} {xs : List Value} (h : RowAt w A xs) (hb : Below w.heap.size w w') : RowAt w' A xs := by
 intro k u hk
 obtain ⟨b, o, rfl, hc⟩ := h k u hk
 exact ⟨b, o, rfl, (hb.cell (World.block_lt_of_cell? w _ hc)).trans hc⟩
theorem RowAt.below {w w' : World} {B : Nat} {A : Option Addr} {xs : List Value} (h : RowAt w A xs) (hb : Below B w w') (hB : w.heap.size ≤ B) : RowAt w' A xs := h.ext (hb.mono hB)
theorem RowAt.drewN {w : World} {A : Option Addr} {xs : List Value} (h : RowAt w A xs) (n : Nat) : RowAt (w.drewN n) A xs := h.ext (below_drewN (Below.refl _ _) n)
theorem RowAt.nil (w : World) (A : Option Addr) : RowAt w A [] := fun k u h => by simp at h
theorem RowAt.take {w : World} {A : Option Addr} {xs : List Value} (h : RowAt w A xs) (n : Nat) : RowAt w A (xs.take n) := fun k u hk => h k u (by
 rw [List.getElem?_take] at hk
 split at hk
 ·exact hk
 cases hk)
def IntsAt (w : World) (A : Option Addr) (xs : List Int) : Prop := RowAt w A (xs.map (Value.int .i64))
theorem IntsAt.get {w : World} {A : Option Addr} {xs : List Int} (h : IntsAt w A xs) {k : Nat} (hk : k < xs.length) : ∃ b o, A = some ⟨b, o, none⟩ ∧ w.cell? ⟨b, o + k, none⟩ = some (.int .i64 (xs.getD k 0)) := by
 obtain ⟨b, o, hA, hc⟩ := RowAt.get h (k := k) (by simpa using hk)
 exact ⟨b, o, hA, by simpa [hk] using hc⟩
theorem IntsAt.ext {w w' : World} {A : Option Addr} {xs : List Int} (h : IntsAt w A xs) (hb : Below w.heap.size w w') : IntsAt w' A xs := RowAt.ext h hb
theorem IntsAt.below {w w' : World} {B : Nat} {A : Option Addr} {xs : List Int} (h : IntsAt w A xs) (hb : Below B w w') (hB : w.heap.size ≤ B) : IntsAt w' A xs := RowAt.below h hb hB
theorem IntsAt.drewN {w : World} {A : Option Addr} {xs : List Int} (h : IntsAt w A xs) (n : Nat) : IntsAt (w.drewN n) A xs := RowAt.drewN h n
theorem IntsAt.take {w : World} {A : Option Addr} {xs : List Int} (h : IntsAt w A xs) (n : Nat) : IntsAt w A (xs.take n) := by
 have := RowAt.take h n
 rwa [← List.map_take] at this
theorem row_of_own {w : World} {base : Nat} {e : TypeId} {v : Value} {n : Nat} {xs : List Value} (h : w.ownsRow base e 1 v n xs) :
  ∃ A c, v = .slice A n c ∧ RowAt w A xs ∧ n ≤ c ∧ c ≤ maxLen ∧ xs.length = n := by
 have hl : xs.length = n := by simpa using h.1
 rcases h.2 with ⟨rfl, rfl⟩ | ⟨g, cap, cur, rfl, hb, hg, hnc, hcm, _, _⟩
 ·have : xs = [] := List.eq_nil_of_length_eq_zero (by simpa using h.1)
  subst this
  exact ⟨none, 0, rfl, RowAt.nil _ _, Nat.le_refl _, Nat.zero_le _, rfl⟩
 refine ⟨some ⟨g, 0, none⟩, cap, rfl, fun k u hk => ⟨g, 0, rfl, ?_⟩, hnc, hcm, hl⟩
 have := h.cells (g := g) rfl k u hk
 rwa [Addr.add_lit] at this
theorem ints_of_own {w : World} {base : Nat} {e : TypeId} {v : Value} {n : Nat} {xs : List Int} (h : w.ownsRow base e 1 v n (xs.map (Value.int .i64))) :
  ∃ A c, v = .slice A xs.length c ∧ IntsAt w A xs ∧ xs.length ≤ c ∧ c ≤ maxLen := by
 obtain ⟨A, c, rfl, h1, h2, h3, h4⟩ := row_of_own h
 simp at h4
 subst h4
 exact ⟨A, c, rfl, h1, h2, h3⟩
theorem row_of_cells {w : World} {g k : Nat} {xs : List Value} (h : CellsAt w g k xs) : RowAt w (some ⟨g, k, none⟩) xs := fun j u hj => ⟨g, k, rfl, by
 have := h.all j u hj
 rwa [Addr.add_lit] at this⟩
end Go.Proofs.YtmopjhbfobmklaaGreatDoor
namespace Go.Proofs.YtmopjhbfobmklaaGreatDoor
open Go.RowKit Go.Joins
set_option linter.unusedVariables false
def Held (w : World) (g : Nat) (cs : List Value) : Prop := ∃ t, w.heap[g]? = some (.cells cs.toArray t (0, 0))
theorem Held.cell {w : World} {g : Nat} {cs : List Value} (h : Held w g cs) (i : Nat) : w.cell? ⟨g, i, none⟩ = cs[i]? := by
 obtain ⟨t, h⟩ := h
 rw [cell_of_block h i]; simp
theorem Held.free {w : World} {g : Nat} {cs : List Value} (h : Held w g cs) (i : Nat) : w.frozen? ⟨g, i, none⟩ = false := by
 obtain ⟨t, h⟩ := h
 exact unfrozen_of_block h i
theorem Held.lt {w : World} {g : Nat} {cs : List Value} (h : Held w g cs) : g < w.heap.size := by
 obtain ⟨t, h⟩ := h
 exact (Array.getElem?_eq_some_iff.1 h).1
theorem Held.below {w w' : World} {B g : Nat} {cs : List Value} (h : Held w g cs) (hb : Below B w w') (hg : g < B) : Held w' g cs := by
 obtain ⟨t, h⟩ := h
 exact ⟨t, (hb.block g hg).trans h⟩
theorem Held.ext {w w' : World} {g : Nat} {cs : List Value} (h : Held w g cs) (hb : Below w.heap.size w w') : Held w' g cs := h.below hb h.lt
theorem Held.drewN {w : World} {g : Nat} {cs : List Value} (h : Held w g cs) (n : Nat) : Held (w.drewN n) g cs := h
theorem Held.set {w : World} {g : Nat} {cs : List Value} (h : Held w g cs) (i : Nat) (v : Value) : Held (w.setCell ⟨g, i, none⟩ v) g (cs.set i v) := by
 obtain ⟨t, h⟩ := h
 exact ⟨t, by rw [block_setCell h v]; simp⟩
theorem Held.other {w : World} {g g' : Nat} {cs : List Value} (h : Held w g cs) (hne : g ≠ g') (i : Nat) (v : Value) : Held (w.setCell ⟨g', i, none⟩ v) g cs := by
 obtain ⟨t, h⟩ := h
 exact ⟨t, by rw [Below.heap_setCell w ⟨g', i, none⟩ v g hne]; exact h⟩
theorem Held.new {w : World} {g : Nat} {cs : List Value} {t : TypeId} (hg : g = w.heap.size) : Held (w.alloc (.cells cs.toArray t (0, 0))) g cs := ⟨t, heap_at w _ hg⟩
theorem Held.alloc {w : World} {g : Nat} {cs : List Value} (h : Held w g cs) (o : Obj) : Held (w.alloc o) g cs := h.ext ((Below.refl _ _).alloc (Nat.le_refl _) _)
end Go.Proofs.YtmopjhbfobmklaaGreatDoor
namespace Go.Proofs.YtmopjhbfobmklaaGreatDoor
open Go.RowKit Go.Joins
set_option linter.unusedVariables false
set_option linter.unusedSimpArgs false
def sB (l : List UInt8) : ByteArray := ⟨l.toArray⟩
theorem sB_list (l : List UInt8) : (sB l).data.toList = l := rfl
theorem sB_size (l : List UInt8) : (sB l).size = l.length := by show l.toArray.size = _; simp
theorem ret_bool {a b : Bool} (h : a = b) : Ending.returned (.bool a) = .returned (.bool b) := by rw [h]
def StopAt (p : Prop) : Prop := p
theorem stop_at {P : Program} {fn : Func} {R : Ending → World → Prop} {a : Act} {w : World} (h : StopAt (bodyPost P fn R .ret a w)) : bodyPost P fn R .ret a w := h
end Go.Proofs.YtmopjhbfobmklaaGreatDoor
namespace Go.Proofs.YtmopjhbfobmklaaGreatDoor
open Go.RowKit Go.Joins
set_option linter.unusedVariables false
set_option linter.unusedSimpArgs false
section
variable {α : Type} {enc : α → List Value} {m : Nat}
theorem flat_len (hm : ∀ x, (enc x).length = m) : ∀ l : List α, (l.flatMap enc).length = l.length * m
 | [] => by simp
 | x :: r => by rw [List.flatMap_cons, List.length_append, flat_len hm r, hm, List.length_cons, Nat.succ_mul]; omega
theorem flat_drop (hm : ∀ x, (enc x).length = m) : ∀ (l : List α) (k : Nat), (l.flatMap enc).drop (k * m) = (l.drop k).flatMap enc
 | [], k => by simp
 | x :: r, 0 => by simp
 | x :: r, k + 1 => by
  rw [List.flatMap_cons, List.drop_succ_cons, List.drop_append, ← flat_drop hm r k, hm, List.drop_of_length_le (by rw [hm, Nat.succ_mul]; omega), Nat.succ_mul, Nat.add_sub_cancel, List.nil_append]
theorem flat_get (hm : ∀ x, (enc x).length = m) {l : List α} {k : Nat} {x : α} (hk : l[k]? = some x) {j : Nat} (hj : j < m) : (l.flatMap enc)[k * m + j]? = (enc x)[j]? := by
 have h1 : ((l.flatMap enc).drop (k * m))[j]? = (enc x)[j]? := by
  rw [flat_drop hm, List.drop_eq_getElem_cons (List.getElem?_eq_some_iff.1 hk).1, (List.getElem?_eq_some_iff.1 hk).2, List.flatMap_cons, List.getElem?_append_left (by rw [hm]; exact hj)]
 rw [← h1, List.getElem?_drop]
theorem row_of_ownK {w : World} {base : Nat} {e : TypeId} {size : Nat} {v : Value} {n : Nat} {xs : List Value} (h : w.ownsRow base e size v n xs) :
  ∃ A c, v = .slice A n c ∧ RowAt w A xs ∧ n ≤ c ∧ c ≤ maxLen ∧ xs.length = n * size := by
 have hl : xs.length = n * size := h.1
 rcases h.2 with ⟨rfl, rfl⟩ | ⟨g, cap, cur, rfl, hb, hg, hnc, hcm, _, _⟩
 ·have : xs = [] := List.eq_nil_of_length_eq_zero (by simpa using h.1)
  subst this
  exact ⟨none, 0, rfl, RowAt.nil _ _, Nat.le_refl _, Nat.zero_le _, by simp⟩
 refine ⟨some ⟨g, 0, none⟩, cap, rfl, fun k u hk => ⟨g, 0, rfl, ?_⟩, hnc, hcm, hl⟩
 have := h.cells (g := g) rfl k u hk
 rwa [Addr.add_lit] at this
end
end Go.Proofs.YtmopjhbfobmklaaGreatDoor
namespace Go.Proofs.YtmopjhbfobmklaaGreatDoor
set_option linter.unusedVariables false
set_option linter.unusedSimpArgs false
end Go.Proofs.YtmopjhbfobmklaaGreatDoor
