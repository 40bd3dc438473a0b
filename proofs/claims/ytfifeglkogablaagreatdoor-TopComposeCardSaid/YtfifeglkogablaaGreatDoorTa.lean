/-
  TopCompose in plain words: images under a composed map, and a map behind its inverse. Without conditions.
-/
import Derived.Test.YtfifeglkogablaaGreatDoorIa
namespace Go.Proofs.YtfifeglkogablaaGreatDoor
set_option linter.unusedVariables false
set_option linter.unusedSimpArgs false
/-- The image of a span under plain pieces is exact. -/
theorem img_plain {m : List Pc} (hg : ∀ p ∈ m, GodP p) (s : Spn) (z : Int) : MemS z (imgL m s) ↔ ∃ x, s.i ≤ x ∧ x < s.o ∧ Led m x z := by
  constructor
  · rintro ⟨u, hu, h⟩
    obtain ⟨p, hp, hu⟩ := List.mem_flatMap.1 hu
    unfold imgO at hu
    split at hu
    · rename_i hlt
      rw [List.mem_singleton] at hu
      subst hu
      obtain ⟨h1, h2⟩ := h
      have hl := fun x => pln_led (hg p hp).2 x
      have h1 : ledP p (max p.i s.i) ≤ z := h1
      have h2 : z < ledP p (min p.o s.o - 1) + 1 := h2
      rw [hl] at h1 h2
      refine ⟨z - p.t + p.i, by omega, by omega, p, hp, by omega, by omega, ?_⟩
      rw [hl]
      omega
    · cases hu
  · rintro ⟨x, h1, h2, p, hp, h3, h4, rfl⟩
    have hl := fun x => pln_led (hg p hp).2 x
    refine ⟨⟨ledP p (max p.i s.i), ledP p (min p.o s.o - 1) + 1⟩, List.mem_flatMap.2 ⟨p, hp, ?_⟩, ?_⟩
    · unfold imgO
      rw [if_pos (by omega)]
      exact List.mem_singleton.2 rfl
    · show ledP p (max p.i s.i) ≤ ledP p x ∧ ledP p x < ledP p (min p.o s.o - 1) + 1
      rw [hl, hl, hl]
      omega
theorem fst_plain {m : List Pc} (h : plnB m = true) : fstB m = false := by
  unfold fstB
  rw [List.any_eq_false]
  intro p hp
  have := plnO_yes (pln_one h p hp)
  simp
  omega
theorem img_of {m : List Pc} {s : Spn} (h : chkP m = 0) (hp : plnB m = true) (hs : chkS [s] = 0) : imgP m s = (joinS (imgL m s), 0) := by
  unfold imgP
  rw [if_pos h, if_pos hs, if_neg (by rw [fst_plain hp]; decide)]
theorem img_span {m : List Pc} {s : Spn} (h : (imgP m s).2 = 0) : chkS [s] = 0 := by
  unfold imgP at h
  split at h
  · split at h
    · assumption
    · exact absurd h (by assumption)
  · exact absurd h (by assumption)
theorem one_span {u : Spn} (h1 : u.i < u.o) (h2 : 0 ≤ u.i) (h3 : u.o ≤ mF) : chkS [u] = 0 := by
  refine chkS_ok.2 ⟨by simp, ⟨h1, fun t ht => (by cases ht), trivial⟩, fun s hs => ?_⟩
  rw [List.mem_singleton] at hs
  have h3 : u.o ≤ 5184000 := h3
  rw [hs]
  exact ⟨h2, by show u.o ≤ 10378368000; omega⟩
theorem pln_god {m : List Pc} (h : ∀ p ∈ m, GodP p) : plnB m = true := by
  unfold plnB
  rw [List.all_eq_true]
  exact fun p hp => (h p hp).2
/-- The images under the second map, one behind the other. -/
def imsL (b : List Pc) (one : List Spn) : List Spn := one.flatMap fun u => joinS (imgL b u)
theorem ims_step {b : List Pc} {one : List Spn} {k : Nat} {u : Spn} (h : one[k]? = some u) : imsL b (one.take (k + 1)) = imsL b (one.take k) ++ joinS (imgL b u) := by
  unfold imsL
  rw [List.take_add_one, h, List.flatMap_append]
  simp
theorem ims_len (b : List Pc) : ∀ one : List Spn, (imsL b one).length ≤ one.length * b.length
  | [] => by simp [imsL]
  | u :: r => by
    have h1 := ims_len b r
    have h2 := joinS_len (imgL b u)
    have h3 := imgL_len b u
    have e : imsL b (u :: r) = joinS (imgL b u) ++ imsL b r := rfl
    rw [e, List.length_append, List.length_cons, Nat.succ_mul]
    omega
theorem ims_mem {b : List Pc} (hg : ∀ p ∈ b, GodP p) (one : List Spn) (z : Int) : MemS z (imsL b one) ↔ ∃ y, MemS y one ∧ Led b y z := by
  constructor
  · rintro ⟨v, hv, h⟩
    obtain ⟨u, hu, hv⟩ := List.mem_flatMap.1 hv
    obtain ⟨y, h1, h2, h3⟩ := (img_plain hg u z).1 ((joinS_mem _ _).1 ⟨v, hv, h⟩)
    exact ⟨y, ⟨u, hu, h1, h2⟩, h3⟩
  · rintro ⟨y, ⟨u, hu, h1, h2⟩, h3⟩
    obtain ⟨v, hv, h⟩ := (joinS_mem _ z).2 ((img_plain hg u z).2 ⟨y, h1, h2, h3⟩)
    exact ⟨v, List.mem_flatMap.2 ⟨u, hu, hv⟩, h⟩
/-- A set of a plain map's image lies in the range. -/
theorem img_rng {m : List Pc} (h : chkP m = 0) (s : Spn) : ∀ u ∈ joinS (imgL m s), u.i < u.o ∧ 0 ≤ u.i ∧ u.o ≤ mF := by
  intro u hu
  have hc := joinS_can (imgL m s)
  have hp := can_pos hc u hu
  have hin : ∀ n, MemS n (imgL m s) → 0 ≤ n ∧ n < mF := by
    rintro n ⟨t, ht, h1, h2⟩
    have := (img_in h s).2 t ht
    omega
  have e1 := hin u.i ((joinS_mem _ _).1 ⟨u, hu, by constructor <;> omega⟩)
  have e2 := hin (u.o - 1) ((joinS_mem _ _).1 ⟨u, hu, by constructor <;> omega⟩)
  omega
theorem compose_img {a b : List Pc} {s : Spn} (hc : (cmpP a b).2 = 0) (hi : (imgP (cmpP a b).1 s).2 = 0) (ha : a.length ≤ 20) (hb : b.length ≤ 20) :
    imgP a s = (joinS (imgL a s), 0) ∧ (joinS (imgL a s)).length ≤ 20 ∧ (∀ u ∈ joinS (imgL a s), imgP b u = (joinS (imgL b u), 0)) ∧ norS (imsL b (joinS (imgL a s))) = imgP (cmpP a b).1 s ∧ chkS (imgP (cmpP a b).1 s).1 = 0 := by
  obtain ⟨h1, h2, h3, h4, h5, h6, h7⟩ := cmp_ok hc
  have hs := img_span hi
  have ga := (god_of h1 h3).2
  have gb := (god_of h2 h4).2
  have hl : (joinS (imgL a s)).length ≤ 20 := by
    have := joinS_len (imgL a s)
    have := imgL_len a s
    omega
  have hr := img_rng h1 s
  have hu : ∀ u ∈ joinS (imgL a s), imgP b u = (joinS (imgL b u), 0) := fun u hu => img_of h2 h4 (one_span (hr u hu).1 (hr u hu).2.1 (hr u hu).2.2)
  have hin : ∀ t ∈ imsL b (joinS (imgL a s)), 0 ≤ t.i ∧ t.o ≤ mF := by
    intro t ht
    obtain ⟨u, _, ht⟩ := List.mem_flatMap.1 ht
    exact (img_rng h2 u t ht).2
  have hlen : (imsL b (joinS (imgL a s))).length ≤ 400 := by
    have := ims_len b (joinS (imgL a s))
    have : (joinS (imgL a s)).length * b.length ≤ 20 * 20 := Nat.mul_le_mul hl hb
    omega
  have hx : imgP (cmpP a b).1 s = (joinS (imgL (cmpP a b).1 s), 0) := img_of h5 (pln_god h6) hs
  have he : joinS (imsL b (joinS (imgL a s))) = joinS (imgL (cmpP a b).1 s) := by
    refine joinS_eq fun z => ?_
    rw [ims_mem gb, img_plain h6]
    constructor
    · rintro ⟨y, hy, hyz⟩
      obtain ⟨x, x1, x2, x3⟩ := (img_plain ga s y).1 ((joinS_mem _ _).1 hy)
      exact ⟨x, x1, x2, (h7 x z).2 ⟨y, x3, hyz⟩⟩
    · rintro ⟨x, x1, x2, x3⟩
      obtain ⟨y, y1, y2⟩ := (h7 x z).1 x3
      exact ⟨y, (joinS_mem _ _).2 ((img_plain ga s y).2 ⟨x, x1, x2, y1⟩), y2⟩
  refine ⟨img_of h1 h3 hs, hl, hu, ?_, ?_⟩
  · rw [nor_in hlen hin, he, hx]
  · have := norS_chk (L := imsL b (joinS (imgL a s))) (by rw [nor_in hlen hin])
    rw [nor_in hlen hin, he, hx.symm] at this
    exact this.1
/-- A set minus itself. -/
theorem sub_self {X : List Spn} (h : chkS X = 0) : subS X X = ([], 0) := by
  obtain ⟨h1, h2, h3⟩ := chkS_ok.1 h
  have e : comS X (rstS (mT + 1) 0 X) = [] := by
    refine can_eq (comS_can h2 (rest_can h2 h3)) trivial fun n => ?_
    rw [sub_mem h3 h2 h3]
    exact ⟨fun hh => (hh.2 hh.1).elim, fun hh => (memS_nil hh).elim⟩
  unfold subS
  rw [if_pos (twoS_ok.2 ⟨h, h⟩), e]
  rfl
/-! a map behind its inverse -/
theorem jst_hold {out : List Pc} {p x : Pc} (ho : ∀ q ∈ out, q.i < q.o) (hp : p.i < p.o) (h : ∃ q ∈ out, q.i ≤ x.i ∧ x.o ≤ q.o) : ∃ q ∈ jstP out p, q.i ≤ x.i ∧ x.o ≤ q.o := by
  obtain ⟨q, hq, h1, h2⟩ := h
  unfold jstP
  cases out with
  | nil => cases hq
  | cons l r =>
    simp only []
    split
    · rename_i hon
      have hon : l.o = p.i ∧ l.t - l.i = p.t - p.i := by simpa [onB] using hon
      rcases List.mem_cons.1 hq with rfl | hq
      · exact ⟨_, List.mem_cons_self .., h1, by show x.o ≤ p.o; omega⟩
      · exact ⟨q, List.mem_cons_of_mem _ hq, h1, h2⟩
    · exact ⟨q, List.mem_cons_of_mem _ hq, h1, h2⟩
theorem jst_own {out : List Pc} {p : Pc} (ho : ∀ q ∈ out, q.i < q.o) (hp : p.i < p.o) : ∃ q ∈ jstP out p, q.i ≤ p.i ∧ p.o ≤ q.o := by
  unfold jstP
  cases out with
  | nil => exact ⟨p, List.mem_cons_self .., Int.le_refl _, Int.le_refl _⟩
  | cons l r =>
    simp only []
    split
    · rename_i hon
      have hon : l.o = p.i ∧ l.t - l.i = p.t - p.i := by simpa [onB] using hon
      have := ho l (List.mem_cons_self ..)
      exact ⟨_, List.mem_cons_self .., by show l.i ≤ p.i; omega, Int.le_refl _⟩
    · exact ⟨p, List.mem_cons_self .., Int.le_refl _, Int.le_refl _⟩
theorem jst_pos {out : List Pc} {p : Pc} (ho : ∀ q ∈ out, q.i < q.o) (hp : p.i < p.o) : ∀ q ∈ jstP out p, q.i < q.o := by
  intro q hq
  unfold jstP at hq
  cases out with
  | nil => rw [List.mem_singleton] at hq; exact hq ▸ hp
  | cons l r =>
    simp only [] at hq
    split at hq
    · rename_i hon
      have hon : l.o = p.i ∧ l.t - l.i = p.t - p.i := by simpa [onB] using hon
      have hl := ho l (List.mem_cons_self ..)
      rcases List.mem_cons.1 hq with rfl | hq
      · show l.i < p.o; omega
      · exact ho q (List.mem_cons_of_mem _ hq)
    · rcases List.mem_cons.1 hq with rfl | hq
      · exact hp
      · exact ho q hq
theorem foldl_hold : ∀ (L out : List Pc), (∀ q ∈ out, q.i < q.o) → (∀ q ∈ L, q.i < q.o) → ∀ x, (x ∈ L ∨ ∃ q ∈ out, q.i ≤ x.i ∧ x.o ≤ q.o) → ∃ q ∈ L.foldl jstP out, q.i ≤ x.i ∧ x.o ≤ q.o
  | [], out, _, _, x, h => by
    rcases h with h | h
    · cases h
    · exact h
  | p :: L, out, ho, hl, x, h => by
    have hp := hl p (List.mem_cons_self ..)
    refine foldl_hold L (jstP out p) (jst_pos ho hp) (fun q hq => hl q (List.mem_cons_of_mem _ hq)) x ?_
    rcases h with h | h
    · rcases List.mem_cons.1 h with rfl | h
      · exact .inr (jst_own ho hp)
      · exact .inl h
    · exact .inr (jst_hold ho hp h)
theorem jon_hold {L : List Pc} (hl : ∀ q ∈ L, q.i < q.o) {x : Pc} (hx : x ∈ L) : ∃ q ∈ jonP L, q.i ≤ x.i ∧ x.o ≤ q.o := by
  have hp := srtP_perm L
  obtain ⟨q, hq, h⟩ := foldl_hold (srtP L) [] (fun q hq => by cases hq) (fun q hq => hl q (hp.mem_iff.1 hq)) x (.inl (hp.mem_iff.2 hx))
  exact ⟨q, List.mem_reverse.2 hq, h⟩
theorem row_one (p : Pc) : ∀ {v : List Pc}, OrdP v → (∀ q ∈ v, q.i < q.o) → (∃ q ∈ v, q.i ≤ p.t ∧ p.t + p.o - p.i ≤ q.o) → (v.flatMap fun q => crsO p q).length ≤ 1
  | [], _, _, _ => by simp
  | h :: r, ho, hn, ⟨q, hq, h1, h2⟩ => by
    rw [List.flatMap_cons, List.length_append]
    rcases List.mem_cons.1 hq with e | hq
    · have hz : (r.flatMap fun q => crsO p q) = [] := by
        rw [List.flatMap_eq_nil_iff]
        intro y hy
        have := ho.1 y hy
        refine crsO_miss ?_
        rw [e] at h1 h2
        omega
      have := crsO_len p h
      rw [hz]
      simpa using this
    · have hz : crsO p h = [] := by
        have := ho.1 q hq
        refine crsO_miss ?_
        omega
      have := row_one p ho.2 (fun q hq => hn q (List.mem_cons_of_mem _ hq)) ⟨q, hq, h1, h2⟩
      rw [hz]
      simpa using this
theorem crs_one {v : List Pc} (ho : OrdP v) (hn : ∀ q ∈ v, q.i < q.o) : ∀ {a : List Pc}, (∀ p ∈ a, ∃ q ∈ v, q.i ≤ p.t ∧ p.t + p.o - p.i ≤ q.o) → (crsP a v).length ≤ a.length
  | [], _ => by simp [crsP]
  | p :: a, h => by
    have h1 := row_one p ho hn (h p (List.mem_cons_self ..))
    have h2 := crs_one ho hn (a := a) (fun x hx => h x (List.mem_cons_of_mem _ hx))
    have e : crsP (p :: a) v = (v.flatMap fun q => crsO p q) ++ crsP a v := rfl
    rw [e, List.length_append, List.length_cons]
    omega
theorem invert_id {a : List Pc} (hi : (invP a).2 = 0) (ha : a.length ≤ 20) :
    (cmpP a (invP a).1).2 = 0 ∧ (cmpP a (invP a).1).1.length ≤ 20 ∧ (∀ p ∈ (cmpP a (invP a).1).1, p.t = p.i) ∧ (domP a).2 = 0 ∧ (domP (cmpP a (invP a).1).1).2 = 0 ∧ (domP (cmpP a (invP a).1).1).1 = (domP a).1 := by
  obtain ⟨h1, h2, h3, h4, h5⟩ := inv_ok hi
  have ga := god_of h1 h2
  have hv : (invP a).1 = jonP (invL a) := by
    unfold invP at hi ⊢
    rw [if_pos h1, if_pos h2] at hi ⊢
    split at hi
    · rename_i hd; rw [if_pos hd]
    · exact absurd hi (by decide)
  have hp := pln_god h4
  have hvo := (god_of h3 hp).1
  have hcr : (crsP a (invP a).1).length ≤ a.length := by
    refine crs_one hvo (fun q hq => (sgl_ok.1 (h4 q hq).1).1) fun p hp => ?_
    rw [hv]
    exact jon_hold (L := invL a) (fun q hq => (sgl_ok.1 (inv_god ga.2 q hq).1).1) (x := invO p) (List.mem_map.2 ⟨p, hp, rfl⟩)
  have hjl := jonP_len (crsP a (invP a).1)
  have hc : cmpP a (invP a).1 = (jonP (crsP a (invP a).1), 0) := by
    unfold cmpP
    rw [if_pos h1, if_pos h3, if_pos (by rw [h2, hp]; rfl), if_neg (by omega)]
  have hc0 : (cmpP a (invP a).1).2 = 0 := by rw [hc]
  obtain ⟨_, _, _, _, k5, k6, k7⟩ := cmp_ok hc0
  have hid : ∀ x z, Led (cmpP a (invP a).1).1 x z ↔ (∃ y, Led a x y) ∧ z = x := by
    intro x z
    rw [k7]
    constructor
    · rintro ⟨y, y1, y2⟩
      have e1 := (at_led h3).1 y2
      have e2 := (at_led h3).1 ((h5 x y).2 y1)
      rw [e1] at e2
      exact ⟨⟨y, y1⟩, (Prod.mk.inj e2).1⟩
    · rintro ⟨⟨y, y1⟩, rfl⟩
      exact ⟨y, y1, (h5 _ _).2 y1⟩
  refine ⟨hc0, by rw [hc]; show (jonP _).length ≤ 20; omega, fun p hp => ?_, ?_, ?_, ?_⟩
  · have hpos := (sgl_ok.1 (k6 p hp).1).1
    have := ((hid p.i (ledP p p.i)).1 ⟨p, hp, Int.le_refl _, hpos, rfl⟩).2
    rw [pln_led (k6 p hp).2] at this
    omega
  · unfold domP; rw [if_pos h1]
  · unfold domP; rw [if_pos k5]
  · unfold domP
    rw [if_pos h1, if_pos k5]
    show joinS _ = joinS _
    refine joinS_eq fun x => ?_
    rw [dom_mem, dom_mem]
    constructor
    · rintro ⟨z, hz⟩; exact ((hid x z).1 hz).1
    · rintro ⟨y, hy⟩; exact ⟨x, (hid x x).2 ⟨⟨y, hy⟩, rfl⟩⟩
end Go.Proofs.YtfifeglkogablaaGreatDoor

