/-
  A region that draws its order and appends twice, one into the other: its operations by kinds. Without conditions.
-/
import Derived.Test.YtneiljaknmeagaaGreatDoorBa
import Derived.Test.YtneiljaknmeagaaGreatDoorBc
import Derived.OwnWalk
import Derived.Laws.OwnMore
namespace Go.Proofs.YtneiljaknmeagaaGreatDoor
open Go.RowKit Go.Joins
set_option linter.unusedVariables false
set_option linter.unusedSimpArgs false
/-- append onto an own row, from a row that can be read. -/
theorem app_row {P : Program} {w : World} {t ty e : TypeId} {i0 : TypeInfo} {z : Value} {size bytes N : Nat} (ht : P.underlying t = some (.slice e)) (hi : P.info? e = some i0) (hz : i0.zero = some z)
    (hsize : i0.size = size) (hby : i0.bytes = bytes) (hzs : z.cells.size = size) (hsz : 0 < size) {v : Value} {n : Nat} {xs : List Value} (hown : w.ownsRow N e size v n xs)
    {A : Option Addr} {m c : Nat} {news : List Value} (hr : RowAt w A news) (hA : A = none → c = 0) (hl : news.length = m * size) (h1 : ∀ u ∈ news, u.oneCell' = true)
    (h63 : n + m ≤ maxLen) (hbytes : (n + m) * bytes ≤ 140737488355328) (hbase : N ≤ w.heap.size) :
    ∃ v' w', (Builtin.append_ #[t, t] ty #[v, .slice A m c]).run P w = .ok v' w' ∧ w'.ownsRow N e size v' (n + m) (xs ++ news) ∧ w.grownBy w' v.ownBlock := by
  rcases A with _ | a
  · have hn : news = [] := by
      cases hh : news with
      | nil => rfl
      | cons u r =>
        rw [hh] at hr
        obtain ⟨b, o, e, _⟩ := hr 0 u rfl
        cases e
    subst hn
    have hm : m = 0 := by
      have h2 : 0 = m * size := hl
      rcases Nat.mul_eq_zero.1 h2.symm with h | h
      · exact h
      · omega
    subst hm
    obtain rfl : c = 0 := hA rfl
    refine ⟨v, w, run_append_owned_none w N t ty e i0 size ht hi v n xs hown, by simpa using hown, World.grownBy.refl _ _⟩
  · obtain ⟨v', w', h2, h3, h4, _⟩ := run_append_own (P := P) w N t ty e i0 z size bytes ht hi hz hsize hby hzs hsz v n xs hown a m c news hl (fun j u hj => by
      obtain ⟨b, o, e, hc⟩ := hr j u hj
      cases e
      have hadd : (⟨b, o, none⟩ : Addr).add j = ⟨b, o + j, none⟩ := by unfold Addr.add; split <;> simp_all
      rw [hadd]
      exact hc) h1 h63 hbytes hbase
    exact ⟨v', w', h2, h3, h4⟩
/-- The facts of the slots: Y of the values; e0 is an empty slice of the call's own up to the first append (i1, slot a1), a1 an own row up to the second one (i2, slot a2), b a block up to it. -/
def Phi2 (Y : Nat → Value → Prop) (N : Nat) (e : TypeId) (size e0 a1 a2 b i1 i2 n1 n2 : Nat) (x1 x2 cb : List Value) (listed : Array Bool) (s : Nat) (v : Value) (w : World) : Prop :=
  Y s v ∧ (s = e0 → listed.getD i1 false = false → ∃ h, v = .slice (some ⟨h, 0, none⟩) 0 0 ∧ N ≤ h ∧ w.heap[h]? = some (.cells #[] e (0, 0))) ∧
  (s = a1 → listed.getD i2 false = false → w.ownsRow N e size v n1 x1) ∧ (s = a2 → w.ownsRow N e size v n2 x2) ∧
  (s = b → listed.getD i2 false = false → ∃ h, v = .slice (some ⟨h, 0, none⟩) 1 1 ∧ N ≤ h ∧ w.heap[h]? = some (.cells cb.toArray e (0, 0)))
section
variable {P : Program} {l : List Oper} {f0 : Nat → Value} {Y : Nat → Value → Prop} {w0 : World} {N : Nat} {e : TypeId} {size e0 a1 a2 b i1 i2 n1 n2 : Nat} {x1 x2 cb : List Value} {i : Nat} {o : Oper}
theorem Phi2.ext {listed : Array Bool} {s : Nat} {v : Value} {w w' : World} (h : Phi2 Y N e size e0 a1 a2 b i1 i2 n1 n2 x1 x2 cb listed s v w) (hb : Below w.heap.size w w') (i : Nat) :
    Phi2 Y N e size e0 a1 a2 b i1 i2 n1 n2 x1 x2 cb (listed.setIfInBounds i true) s v w' := by
  obtain ⟨g1, g2, g3, g4, g5⟩ := h
  refine ⟨g1, fun h1 h2 => ?_, fun h1 h2 => own_ext (g3 h1 (listed_set h2)) hb, fun h1 => own_ext (g4 h1) hb, fun h1 h2 => ?_⟩
  · obtain ⟨h, k1, k2, k3⟩ := g2 h1 (listed_set h2)
    exact ⟨h, k1, k2, (hb.block h (Array.getElem?_eq_some_iff.1 k3).1).trans k3⟩
  · obtain ⟨h, k1, k2, k3⟩ := g5 h1 (listed_set h2)
    exact ⟨h, k1, k2, (hb.block h (Array.getElem?_eq_some_iff.1 k3).1).trans k3⟩
/-- An operation that reads. -/
theorem OpOkF.read (hg : o.guard = none) (hd : ∀ d, o.dst = some d → d ≠ e0 ∧ d ≠ a1 ∧ d ≠ a2 ∧ d ≠ b)
    (h : ∀ (ev : Nat → Value) (w : World), Below N w0 w → (∀ j d, depB l i j = true → dstOf l j = some d → Y d (ev d)) → (∀ s, freeB l i s = true → ev s = f0 s) →
      OpRuns P (evalOf ev) o w fun v w' => w' = w ∧ ∀ d, o.dst = some d → Y d v) :
    OpOkF P l f0 (fun _ w => Below N w0 w) (Phi2 Y N e size e0 a1 a2 b i1 i2 n1 n2 x1 x2 cb) i o := by
  intro ev w listed hJ hsz hun hcl hdl hdep hfree
  have h0 := h ev w hJ (fun j d h1 h2 => (hdep j d h1 h2).1) hfree
  rw [hg]
  dsimp only
  refine opRuns_mono h0 ?_
  rintro v w' ⟨rfl, h2⟩
  refine ⟨hJ, fun j s u _ _ hp => hp.ext (Below.refl _ _) i, fun d hdd => ?_⟩
  obtain ⟨k1, k2, k3, k4⟩ := hd d hdd
  exact ⟨h2 d hdd, fun e => absurd e k1, fun e => absurd e k2, fun e => absurd e k3, fun e => absurd e k4⟩
/-- An operation that makes memory. -/
theorem OpOkF.make (hg : o.guard = none) (hN : N ≤ w0.heap.size)
    (h : ∀ (ev : Nat → Value) (w : World), Below N w0 w → (∀ j d, depB l i j = true → dstOf l j = some d → Y d (ev d)) → (∀ s, freeB l i s = true → ev s = f0 s) →
      OpRuns P (evalOf ev) o w fun v w' => Below w.heap.size w w' ∧ ∀ d, o.dst = some d → ∀ listed, Phi2 Y N e size e0 a1 a2 b i1 i2 n1 n2 x1 x2 cb listed d v w') :
    OpOkF P l f0 (fun _ w => Below N w0 w) (Phi2 Y N e size e0 a1 a2 b i1 i2 n1 n2 x1 x2 cb) i o := by
  intro ev w listed hJ hsz hun hcl hdl hdep hfree
  have h0 := h ev w hJ (fun j d h1 h2 => (hdep j d h1 h2).1) hfree
  rw [hg]
  dsimp only
  refine opRuns_mono h0 ?_
  rintro v w' ⟨h1, h2⟩
  exact ⟨hJ.trans (h1.mono (Nat.le_trans hN hJ.size)), fun j s u _ _ hp => hp.ext h1 i, fun d hdd => h2 d hdd _⟩
variable {t : TypeId} {i0 : TypeInfo} {z : Value} {bytes : Nat}
/-- The first append. -/
theorem OpOkF.app1 {s1 j0 : Nat} (ho : o.op = .call { callee := .builtin .append, args := #[.tmp e0, .tmp s1], argTypes := #[t, t] }) (hg : o.guard = none) (hdst : o.dst = some a1) (hil : i1 < l.length)
    (hj0 : depB l i1 j0 = true) (hj1 : dstOf l j0 = some e0) (hN : N ≤ w0.heap.size) (ht : P.underlying t = some (.slice e)) (hi : P.info? e = some i0) (hz : i0.zero = some z)
    (hsize : i0.size = size) (hby : i0.bytes = bytes) (hzs : z.cells.size = size) (hsz0 : 0 < size)
    (hsrc : ∀ (ev : Nat → Value) (w : World), Below N w0 w → (∀ j d, depB l i1 j = true → dstOf l j = some d → Y d (ev d)) → ∃ A c, ev s1 = .slice A n1 c ∧ RowAt w A x1 ∧ (A = none → c = 0))
    (hl : x1.length = n1 * size) (h1 : ∀ u ∈ x1, u.oneCell' = true) (h63 : n1 ≤ maxLen) (hbytes : n1 * bytes ≤ 140737488355328)
    (hu1 : ∀ j, j ≠ i1 → dstOf l j ≠ some a1) (hu2 : ∀ j, j ≠ i2 → dstOf l j ≠ some a2) (hd21 : depB l i2 i1 = true) (hcb : cb ≠ []) (hY : ∀ v, Y a1 v) (hne : a1 ≠ e0 ∧ a1 ≠ a2 ∧ a1 ≠ b) :
    OpOkF P l f0 (fun _ w => Below N w0 w) (Phi2 Y N e size e0 a1 a2 b i1 i2 n1 n2 x1 x2 cb) i1 o := by
  intro ev w listed hJ hsz hun hcl hdl hdep hfree
  obtain ⟨h, hv, hNh, hh⟩ := (hdep j0 e0 hj0 hj1).2.1 rfl hun
  have hNw : N ≤ w.heap.size := Nat.le_trans hN hJ.size
  have own0 : w.ownsRow N e size (ev e0) 0 [] := ⟨by simp, .inr ⟨h, 0, #[], hv, hNh, hh, Nat.le_refl _, Nat.zero_le _, by simp, by simp⟩⟩
  obtain ⟨A, c, hs, hr, hA⟩ := hsrc ev w hJ (fun j d h1 h2 => (hdep j d h1 h2).1)
  obtain ⟨v', w', hrun, hown, hgr⟩ := app_row (P := P) (ty := o.type) ht hi hz hsize hby hzs hsz0 own0 hr hA hl h1 (by rw [Nat.zero_add]; exact h63) (by rw [Nat.zero_add]; exact hbytes) hNw
  rw [hg]
  unfold OpRuns
  simp only [execOp, evalOf, ho, resolve, invoke, builtin, Sem.run_bind, Sem.run_pure, Result.andThen_ok, List.map_toArray, List.map_cons, List.map_nil, hs, hrun]
  rw [hv] at hgr
  have hgr : w.grownBy w' (some h) := hgr
  rw [Nat.zero_add, List.nil_append] at hown
  have hit : (listed.setIfInBounds i1 true).getD i1 false = true := listed_hit (by omega)
  refine ⟨hJ.grown hgr hNw (fun k hk => by cases hk; exact hNh), fun j s u hj hd hp => ?_, fun d hd => ?_⟩
  · obtain ⟨g1, g2, g3, g4, g5⟩ := hp
    refine ⟨g1, fun e1 e2 => ?_, fun e1 e2 => ?_, fun e1 => ?_, fun e1 e2 => ?_⟩
    · rw [hit] at e2; cases e2
    · subst e1
      by_cases hji : j = i1
      · rw [hji, hun] at hj; cases hj
      · exact absurd hd (hu1 j hji)
    · subst e1
      by_cases hji : j = i2
      · rw [hji] at hj
        rw [hcl i2 i1 hj hd21] at hun
        cases hun
      · exact absurd hd (hu2 j hji)
    · obtain ⟨h', k1, k2, k3⟩ := g5 e1 (listed_set e2)
      refine ⟨h', k1, k2, (hgr.block h' (Array.getElem?_eq_some_iff.1 k3).1 (fun e => ?_)).trans k3⟩
      cases e
      rw [hh] at k3
      injection k3 with k3
      injection k3 with k3
      exact hcb (by simpa using k3.symm)
  · rw [hdst] at hd
    cases hd
    exact ⟨hY _, fun e => absurd e hne.1, fun _ _ => hown, fun e => absurd e hne.2.1, fun e => absurd e hne.2.2⟩
/-- The second append. -/
theorem OpOkF.app2 {s2 m : Nat} {news : List Value} (ho : o.op = .call { callee := .builtin .append, args := #[.tmp a1, .tmp s2], argTypes := #[t, t] }) (hg : o.guard = none) (hdst : o.dst = some a2) (hil : i2 < l.length)
    (hj1 : dstOf l i1 = some a1) (hN : N ≤ w0.heap.size) (ht : P.underlying t = some (.slice e)) (hi : P.info? e = some i0) (hz : i0.zero = some z)
    (hsize : i0.size = size) (hby : i0.bytes = bytes) (hzs : z.cells.size = size) (hsz0 : 0 < size)
    (hsrc : ∀ (ev : Nat → Value) (w : World) (listed : Array Bool), Below N w0 w → listed.getD i2 false = false → (∀ j d, depB l i2 j = true → dstOf l j = some d → Phi2 Y N e size e0 a1 a2 b i1 i2 n1 n2 x1 x2 cb listed d (ev d) w) → ∃ A c, ev s2 = .slice A m c ∧ RowAt w A news ∧ (A = none → c = 0))
    (hl : news.length = m * size) (h1 : ∀ u ∈ news, u.oneCell' = true) (h63 : n1 + m ≤ maxLen) (hbytes : (n1 + m) * bytes ≤ 140737488355328) (hn2 : n2 = n1 + m) (hx2 : x2 = x1 ++ news)
    (hu2 : ∀ j, j ≠ i2 → dstOf l j ≠ some a2) (hd21 : depB l i2 i1 = true) (hY : ∀ v, Y a2 v) (hne : a2 ≠ e0 ∧ a2 ≠ a1 ∧ a2 ≠ b) :
    OpOkF P l f0 (fun _ w => Below N w0 w) (Phi2 Y N e size e0 a1 a2 b i1 i2 n1 n2 x1 x2 cb) i2 o := by
  intro ev w listed hJ hsz hun hcl hdl hdep hfree
  have own1 := (hdep i1 a1 hd21 hj1).2.2.1 rfl hun
  have hl1 := hdl i1 hd21
  have hNw : N ≤ w.heap.size := Nat.le_trans hN hJ.size
  obtain ⟨A, c, hs, hr, hA⟩ := hsrc ev w listed hJ hun hdep
  obtain ⟨v', w', hrun, hown, hgr⟩ := app_row (P := P) (ty := o.type) ht hi hz hsize hby hzs hsz0 own1 hr hA hl h1 h63 hbytes hNw
  rw [hg]
  unfold OpRuns
  simp only [execOp, evalOf, ho, resolve, invoke, builtin, Sem.run_bind, Sem.run_pure, Result.andThen_ok, List.map_toArray, List.map_cons, List.map_nil, hs, hrun]
  have hit : (listed.setIfInBounds i2 true).getD i2 false = true := listed_hit (by omega)
  refine ⟨hJ.grown hgr hNw (own_base own1), fun j s u hj hd hp => ?_, fun d hd => ?_⟩
  · obtain ⟨g1, g2, g3, g4, g5⟩ := hp
    refine ⟨g1, fun e1 e2 => ?_, fun e1 e2 => ?_, fun e1 => ?_, fun e1 e2 => ?_⟩
    · rw [listed_set e2] at hl1; cases hl1
    · rw [hit] at e2; cases e2
    · subst e1
      by_cases hji : j = i2
      · rw [hji, hun] at hj; cases hj
      · exact absurd hd (hu2 j hji)
    · rw [hit] at e2; cases e2
  · rw [hdst] at hd
    cases hd
    exact ⟨hY _, fun e => absurd e hne.1, fun e => absurd e hne.2.1, fun _ => by rw [hn2, hx2]; exact hown, fun e => absurd e hne.2.2⟩
end
end Go.Proofs.YtneiljaknmeagaaGreatDoor
