/-
  Clones. The conditions of the contracts are their hypotheses.
-/
import Derived.Test.YtmopjhbfobmklaaGreatDoorMH0
import Derived.Test.YtmopjhbfobmklaaGreatDoorMBf
set_option maxRecDepth 100000
set_option maxHeartbeats 40000000
namespace Go.Proofs.YtmopjhbfobmklaaGreatDoor
open Go.RowKit Go.Joins
set_option linter.unusedVariables false
set_option linter.unusedSimpArgs false
theorem Below.one' (w : World) (o : Obj) : Below w.heap.size w (w.alloc o) := (Below.refl _ _).alloc (Nat.le_refl _) _
theorem own_emptyK (w : World) (base : Nat) (ty : TypeId) (sz : Nat) (hb : base ≤ w.heap.size) : (w.alloc (.cells #[] ty)).ownsRow base ty sz (.slice (some ⟨w.heap.size, 0, none⟩) 0 0) 0 [] :=
 ⟨by simp, .inr ⟨w.heap.size, 0, #[], rfl, hb, heap_at w _ rfl, Nat.le_refl _, Nat.zero_le _, by simp, by simp⟩⟩
theorem infoCRg : (Tryz.prog.info? 128).map (fun i => (i.zero, i.size, i.bytes)) = some (some (.agg #[.string ⟨#[]⟩, .int .i64 0, .int .i64 0, .int .i64 0, .int .i64 0, .int .u8 0, .bool false]), 7, 56) := by kernel_rfl
theorem cloneRg_any (A : Option Addr) (n c : Nat) (l : List Value) (w : World) (hl : l.length = n * 7) (hA : A = none → n = 0) (hc : ∀ ad, A = some ad → ∀ j u, l[j]? = some u → w.cell? (ad.add j) = some u) (h1 : ∀ u ∈ l, u.oneCell' = true) (hn : n ≤ 2000000) :
  Calls Tryz.prog 58 #[.slice A n c] w fun e w' => (∃ v, e = .returned v ∧ w'.ownsRow w.heap.size 128 7 v n l) ∧ Below w.heap.size w w' := by
 obtain ⟨i0, hi, hz0, hz1, hz2⟩ := info_parts infoCRg
 have HI0 := ι (And.intro hi (And.intro hz0 (And.intro hz1 hz2)))
 have q22 : ∀ (w : World) (a : Option Addr) (n c n' c' : Nat), (binOp .eql 37 (.slice a n c) (.slice none n' c')).run Tryz.prog w = .ok (.bool a.isNone) w := fun w a n c n' c' => Lib.run_eql_slice_nil w _ _ a n c n' c' Tryz.underlying37
 obtain ⟨D, hD⟩ : ∃ D, D = w.heap.size := ⟨_, rfl⟩
 have HD := ι hD
 rw [← hD]
 clear hi hz0 hz1 hz2 hD
 have HC := ι hc
 have HL := ι hl
 have H1 := ι h1
 clear hc hl h1
 cases A with
 | none =>
  obtain rfl := hA rfl
  obtain rfl : l = [] := List.eq_nil_of_length_eq_zero (by rw [HL.out])
  clear hA
  go_enter Tryz.func58, Tryz.ntmps58
  go_wp2_with fail
  go_ret
  exact ⟨⟨_, rfl, World.ownsRow_nil _ _ _ _⟩, Below.refl _ _⟩
 | some ad =>
  clear hA
  have HN := ι (fun W (hb : Below w.heap.size w W) j u (hu : l[j]? = some u) => show W.cell? (ad.add j) = some u from (hb.cell (World.block_lt_of_cell? w _ (HC.out ad rfl j u hu))).trans (HC.out ad rfl j u hu))
  go_enter Tryz.func58, Tryz.ntmps58
  go_wp2_with (at_builtin; go_loud (refine wpList_append_own _ rfl _ _ 37 rfl D 128 i0 (.agg #[.string ⟨#[]⟩, .int .i64 0, .int .i64 0, .int .i64 0, .int .i64 0, .int .u8 0, .bool false]) 7 56 Tryz.underlying37 HI0.out.1 HI0.out.2.1 HI0.out.2.2.1 HI0.out.2.2.2 rfl (by decide) _ 0 [] rfl (own_emptyK w D _ _ (Nat.le_of_eq HD.out)) ad n c l rfl HL.out (HN.out _ (Below.one' w _)) H1.out (by simp only [maxLen]; omega) (by omega) (by simp; have := HD.out; omega) ?_))
  intro v1 w1 ho hgr _
  have G1 := ι (show Below D w w1 from ((Below.refl D w).alloc (Nat.le_of_eq HD.out) _).grown hgr (by simp; have := HD.out; omega) (fun k e => by cases e; exact Nat.le_of_eq HD.out))
  have HO1 := ι (show w1.ownsRow D 128 7 v1 n l by simpa using ho)
  clear ho hgr
  go_wp2_with fail
  go_ret
  exact ⟨⟨_, rfl, HO1.out⟩, G1.out⟩
theorem infoCCm : (Tryz.prog.info? 137).map (fun i => (i.zero, i.size, i.bytes)) = some (some (.agg #[.int .i64 0, .int .i64 0, .int .i64 0, .int .i64 0, .string ⟨#[]⟩, .string ⟨#[]⟩, .bool false, .bool false]), 8, 72) := by kernel_rfl
theorem cloneCm_any (A : Option Addr) (n c : Nat) (l : List Value) (w : World) (hl : l.length = n * 8) (hA : A = none → n = 0) (hc : ∀ ad, A = some ad → ∀ j u, l[j]? = some u → w.cell? (ad.add j) = some u) (h1 : ∀ u ∈ l, u.oneCell' = true) (hn : n ≤ 2000000) :
  Calls Tryz.prog 59 #[.slice A n c] w fun e w' => (∃ v, e = .returned v ∧ w'.ownsRow w.heap.size 137 8 v n l) ∧ Below w.heap.size w w' := by
 obtain ⟨i0, hi, hz0, hz1, hz2⟩ := info_parts infoCCm
 have HI0 := ι (And.intro hi (And.intro hz0 (And.intro hz1 hz2)))
 have q22 : ∀ (w : World) (a : Option Addr) (n c n' c' : Nat), (binOp .eql 39 (.slice a n c) (.slice none n' c')).run Tryz.prog w = .ok (.bool a.isNone) w := fun w a n c n' c' => Lib.run_eql_slice_nil w _ _ a n c n' c' Tryz.underlying39
 obtain ⟨D, hD⟩ : ∃ D, D = w.heap.size := ⟨_, rfl⟩
 have HD := ι hD
 rw [← hD]
 clear hi hz0 hz1 hz2 hD
 have HC := ι hc
 have HL := ι hl
 have H1 := ι h1
 clear hc hl h1
 cases A with
 | none =>
  obtain rfl := hA rfl
  obtain rfl : l = [] := List.eq_nil_of_length_eq_zero (by rw [HL.out])
  clear hA
  go_enter Tryz.func59, Tryz.ntmps59
  go_wp2_with fail
  go_ret
  exact ⟨⟨_, rfl, World.ownsRow_nil _ _ _ _⟩, Below.refl _ _⟩
 | some ad =>
  clear hA
  have HN := ι (fun W (hb : Below w.heap.size w W) j u (hu : l[j]? = some u) => show W.cell? (ad.add j) = some u from (hb.cell (World.block_lt_of_cell? w _ (HC.out ad rfl j u hu))).trans (HC.out ad rfl j u hu))
  go_enter Tryz.func59, Tryz.ntmps59
  go_wp2_with (at_builtin; go_loud (refine wpList_append_own _ rfl _ _ 39 rfl D 137 i0 (.agg #[.int .i64 0, .int .i64 0, .int .i64 0, .int .i64 0, .string ⟨#[]⟩, .string ⟨#[]⟩, .bool false, .bool false]) 8 72 Tryz.underlying39 HI0.out.1 HI0.out.2.1 HI0.out.2.2.1 HI0.out.2.2.2 rfl (by decide) _ 0 [] rfl (own_emptyK w D _ _ (Nat.le_of_eq HD.out)) ad n c l rfl HL.out (HN.out _ (Below.one' w _)) H1.out (by simp only [maxLen]; omega) (by omega) (by simp; have := HD.out; omega) ?_))
  intro v1 w1 ho hgr _
  have G1 := ι (show Below D w w1 from ((Below.refl D w).alloc (Nat.le_of_eq HD.out) _).grown hgr (by simp; have := HD.out; omega) (fun k e => by cases e; exact Nat.le_of_eq HD.out))
  have HO1 := ι (show w1.ownsRow D 137 8 v1 n l by simpa using ho)
  clear ho hgr
  go_wp2_with fail
  go_ret
  exact ⟨⟨_, rfl, HO1.out⟩, G1.out⟩
theorem infoCEv : (Tryz.prog.info? 55).map (fun i => (i.zero, i.size, i.bytes)) = some (some (.agg #[.int .i64 0, .int .i64 0, .int .i64 0, .string ⟨#[]⟩, .int .u8 0, .string ⟨#[]⟩, .slice none 0 0]), 7, 88) := by kernel_rfl
theorem cloneEv_any (A : Option Addr) (n c : Nat) (l : List Value) (w : World) (hl : l.length = n * 7) (hA : A = none → n = 0) (hc : ∀ ad, A = some ad → ∀ j u, l[j]? = some u → w.cell? (ad.add j) = some u) (h1 : ∀ u ∈ l, u.oneCell' = true) (hn : n ≤ 2000000) :
  Calls Tryz.prog 60 #[.slice A n c] w fun e w' => (∃ v, e = .returned v ∧ w'.ownsRow w.heap.size 55 7 v n l) ∧ Below w.heap.size w w' := by
 obtain ⟨i0, hi, hz0, hz1, hz2⟩ := info_parts infoCEv
 have HI0 := ι (And.intro hi (And.intro hz0 (And.intro hz1 hz2)))
 have q22 : ∀ (w : World) (a : Option Addr) (n c n' c' : Nat), (binOp .eql 38 (.slice a n c) (.slice none n' c')).run Tryz.prog w = .ok (.bool a.isNone) w := fun w a n c n' c' => Lib.run_eql_slice_nil w _ _ a n c n' c' Tryz.underlying38
 obtain ⟨D, hD⟩ : ∃ D, D = w.heap.size := ⟨_, rfl⟩
 have HD := ι hD
 rw [← hD]
 clear hi hz0 hz1 hz2 hD
 have HC := ι hc
 have HL := ι hl
 have H1 := ι h1
 clear hc hl h1
 cases A with
 | none =>
  obtain rfl := hA rfl
  obtain rfl : l = [] := List.eq_nil_of_length_eq_zero (by rw [HL.out])
  clear hA
  go_enter Tryz.func60, Tryz.ntmps60
  go_wp2_with fail
  go_ret
  exact ⟨⟨_, rfl, World.ownsRow_nil _ _ _ _⟩, Below.refl _ _⟩
 | some ad =>
  clear hA
  have HN := ι (fun W (hb : Below w.heap.size w W) j u (hu : l[j]? = some u) => show W.cell? (ad.add j) = some u from (hb.cell (World.block_lt_of_cell? w _ (HC.out ad rfl j u hu))).trans (HC.out ad rfl j u hu))
  go_enter Tryz.func60, Tryz.ntmps60
  go_wp2_with (at_builtin; go_loud (refine wpList_append_own _ rfl _ _ 38 rfl D 55 i0 (.agg #[.int .i64 0, .int .i64 0, .int .i64 0, .string ⟨#[]⟩, .int .u8 0, .string ⟨#[]⟩, .slice none 0 0]) 7 88 Tryz.underlying38 HI0.out.1 HI0.out.2.1 HI0.out.2.2.1 HI0.out.2.2.2 rfl (by decide) _ 0 [] rfl (own_emptyK w D _ _ (Nat.le_of_eq HD.out)) ad n c l rfl HL.out (HN.out _ (Below.one' w _)) H1.out (by simp only [maxLen]; omega) (by omega) (by simp; have := HD.out; omega) ?_))
  intro v1 w1 ho hgr _
  have G1 := ι (show Below D w w1 from ((Below.refl D w).alloc (Nat.le_of_eq HD.out) _).grown hgr (by simp; have := HD.out; omega) (fun k e => by cases e; exact Nat.le_of_eq HD.out))
  have HO1 := ι (show w1.ownsRow D 55 7 v1 n l by simpa using ho)
  clear ho hgr
  go_wp2_with fail
  go_ret
  exact ⟨⟨_, rfl, HO1.out⟩, G1.out⟩
theorem infoCRw : (Tryz.prog.info? 164).map (fun i => (i.zero, i.size, i.bytes)) = some (some (.agg #[.slice none 0 0]), 1, 24) := by kernel_rfl
theorem cloneRw_any (A : Option Addr) (n c : Nat) (l : List Value) (w : World) (hl : l.length = n * 1) (hA : A = none → n = 0) (hc : ∀ ad, A = some ad → ∀ j u, l[j]? = some u → w.cell? (ad.add j) = some u) (h1 : ∀ u ∈ l, u.oneCell' = true) (hn : n ≤ 2000000) :
  Calls Tryz.prog 145 #[.slice A n c] w fun e w' => (∃ v, e = .returned v ∧ w'.ownsRow w.heap.size 164 1 v n l) ∧ Below w.heap.size w w' := by
 obtain ⟨i0, hi, hz0, hz1, hz2⟩ := info_parts infoCRw
 have HI0 := ι (And.intro hi (And.intro hz0 (And.intro hz1 hz2)))
 have q22 : ∀ (w : World) (a : Option Addr) (n c n' c' : Nat), (binOp .eql 53 (.slice a n c) (.slice none n' c')).run Tryz.prog w = .ok (.bool a.isNone) w := fun w a n c n' c' => Lib.run_eql_slice_nil w _ _ a n c n' c' Tryz.underlying53
 obtain ⟨D, hD⟩ : ∃ D, D = w.heap.size := ⟨_, rfl⟩
 have HD := ι hD
 rw [← hD]
 clear hi hz0 hz1 hz2 hD
 have HC := ι hc
 have HL := ι hl
 have H1 := ι h1
 clear hc hl h1
 cases A with
 | none =>
  obtain rfl := hA rfl
  obtain rfl : l = [] := List.eq_nil_of_length_eq_zero (by rw [HL.out])
  clear hA
  go_enter Tryz.func145, Tryz.ntmps145
  go_wp2_with fail
  go_ret
  exact ⟨⟨_, rfl, World.ownsRow_nil _ _ _ _⟩, Below.refl _ _⟩
 | some ad =>
  clear hA
  have HN := ι (fun W (hb : Below w.heap.size w W) j u (hu : l[j]? = some u) => show W.cell? (ad.add j) = some u from (hb.cell (World.block_lt_of_cell? w _ (HC.out ad rfl j u hu))).trans (HC.out ad rfl j u hu))
  go_enter Tryz.func145, Tryz.ntmps145
  go_wp2_with (at_builtin; go_loud (refine wpList_append_own _ rfl _ _ 53 rfl D 164 i0 (.agg #[.slice none 0 0]) 1 24 Tryz.underlying53 HI0.out.1 HI0.out.2.1 HI0.out.2.2.1 HI0.out.2.2.2 rfl (by decide) _ 0 [] rfl (own_emptyK w D _ _ (Nat.le_of_eq HD.out)) ad n c l rfl HL.out (HN.out _ (Below.one' w _)) H1.out (by simp only [maxLen]; omega) (by omega) (by simp; have := HD.out; omega) ?_))
  intro v1 w1 ho hgr _
  have G1 := ι (show Below D w w1 from ((Below.refl D w).alloc (Nat.le_of_eq HD.out) _).grown hgr (by simp; have := HD.out; omega) (fun k e => by cases e; exact Nat.le_of_eq HD.out))
  have HO1 := ι (show w1.ownsRow D 164 1 v1 n l by simpa using ho)
  clear ho hgr
  go_wp2_with fail
  go_ret
  exact ⟨⟨_, rfl, HO1.out⟩, G1.out⟩
theorem infoCRn : (Tryz.prog.info? 230).map (fun i => (i.zero, i.size, i.bytes)) = some (some (.agg #[.string ⟨#[]⟩, .int .u8 0, .bool false, .bool false, .string ⟨#[]⟩]), 5, 40) := by kernel_rfl
theorem cloneRn_any (A : Option Addr) (n c : Nat) (l : List Value) (w : World) (hl : l.length = n * 5) (hA : A = none → n = 0) (hc : ∀ ad, A = some ad → ∀ j u, l[j]? = some u → w.cell? (ad.add j) = some u) (h1 : ∀ u ∈ l, u.oneCell' = true) (hn : n ≤ 2000000) :
  Calls Tryz.prog 146 #[.slice A n c] w fun e w' => (∃ v, e = .returned v ∧ w'.ownsRow w.heap.size 230 5 v n l) ∧ Below w.heap.size w w' := by
 obtain ⟨i0, hi, hz0, hz1, hz2⟩ := info_parts infoCRn
 have HI0 := ι (And.intro hi (And.intro hz0 (And.intro hz1 hz2)))
 have q22 : ∀ (w : World) (a : Option Addr) (n c n' c' : Nat), (binOp .eql 162 (.slice a n c) (.slice none n' c')).run Tryz.prog w = .ok (.bool a.isNone) w := fun w a n c n' c' => Lib.run_eql_slice_nil w _ _ a n c n' c' Tryz.underlying162
 obtain ⟨D, hD⟩ : ∃ D, D = w.heap.size := ⟨_, rfl⟩
 have HD := ι hD
 rw [← hD]
 clear hi hz0 hz1 hz2 hD
 have HC := ι hc
 have HL := ι hl
 have H1 := ι h1
 clear hc hl h1
 cases A with
 | none =>
  obtain rfl := hA rfl
  obtain rfl : l = [] := List.eq_nil_of_length_eq_zero (by rw [HL.out])
  clear hA
  go_enter Tryz.func146, Tryz.ntmps146
  go_wp2_with fail
  go_ret
  exact ⟨⟨_, rfl, World.ownsRow_nil _ _ _ _⟩, Below.refl _ _⟩
 | some ad =>
  clear hA
  have HN := ι (fun W (hb : Below w.heap.size w W) j u (hu : l[j]? = some u) => show W.cell? (ad.add j) = some u from (hb.cell (World.block_lt_of_cell? w _ (HC.out ad rfl j u hu))).trans (HC.out ad rfl j u hu))
  go_enter Tryz.func146, Tryz.ntmps146
  go_wp2_with (at_builtin; go_loud (refine wpList_append_own _ rfl _ _ 162 rfl D 230 i0 (.agg #[.string ⟨#[]⟩, .int .u8 0, .bool false, .bool false, .string ⟨#[]⟩]) 5 40 Tryz.underlying162 HI0.out.1 HI0.out.2.1 HI0.out.2.2.1 HI0.out.2.2.2 rfl (by decide) _ 0 [] rfl (own_emptyK w D _ _ (Nat.le_of_eq HD.out)) ad n c l rfl HL.out (HN.out _ (Below.one' w _)) H1.out (by simp only [maxLen]; omega) (by omega) (by simp; have := HD.out; omega) ?_))
  intro v1 w1 ho hgr _
  have G1 := ι (show Below D w w1 from ((Below.refl D w).alloc (Nat.le_of_eq HD.out) _).grown hgr (by simp; have := HD.out; omega) (fun k e => by cases e; exact Nat.le_of_eq HD.out))
  have HO1 := ι (show w1.ownsRow D 230 5 v1 n l by simpa using ho)
  clear ho hgr
  go_wp2_with fail
  go_ret
  exact ⟨⟨_, rfl, HO1.out⟩, G1.out⟩
theorem own_puts {B g n cap : Nat} {e : TypeId} {size : Nat} : ∀ (vs : List Value) {xs : List Value} (o : Nat) {w : World}, w.ownsRow B e size (.slice (some ⟨g, 0, none⟩) n cap) n xs → o + vs.length ≤ xs.length → (w.setCells g o vs).ownsRow B e size (.slice (some ⟨g, 0, none⟩) n cap) n (putL xs o vs)
 | [], xs, o, w, h, _ => h
 | v :: r, xs, o, w, h, hl => own_puts (w := w.setCell ⟨g, o, none⟩ v) r (o + 1) (own_cell h o v (by simp at hl; omega)) (by simp at hl ⊢; omega)
theorem own_far {B n : Nat} {e : TypeId} {size : Nat} {v : Value} {xs : List Value} {p : Nat} (hne : v.ownBlock ≠ some p) : ∀ (vs : List Value) (o : Nat) {w : World}, w.ownsRow B e size v n xs → (w.setCells p o vs).ownsRow B e size v n xs
 | [], o, w, h => h
 | u :: r, o, w, h => own_far (w := w.setCell ⟨p, o, none⟩ u) hne r (o + 1) (own_put h hne o u)
theorem putL_mid : ∀ (vs c a b : List Value), vs.length = c.length → putL (a ++ (c ++ b)) a.length vs = a ++ (vs ++ b)
 | [], [], a, b, _ => rfl
 | v :: vs, x :: c, a, b, h => by
  have ih := putL_mid vs c (a ++ [v]) b (by simpa using h)
  unfold putL
  rw [List.set_append_right _ _ (Nat.le_refl _), Nat.sub_self, show a.length + 1 = (a ++ [v]).length by simp]
  rw [show a ++ (x :: c ++ b).set 0 v = (a ++ [v]) ++ (c ++ b) by simp, ih]
  simp
 | [], _ :: _, _, _, h => by simp at h
 | _ :: _, [], _, _, h => by simp at h
theorem KeepS.puts {S : TypeId → Prop} {ty : TypeId} (hne : ¬ S ty) {b : Nat} : ∀ (vs : List Value) {w : World} {cs0 : Array Value} (o : Nat), w.heap[b]? = some (.cells cs0 ty (0, 0)) → KeepS S w (w.setCells b o vs)
 | [], w, _, _, _ => KeepS.refl w
 | v :: r, w, _, o, hb => (KeepS.put hb hne o v).trans (KeepS.puts hne r (o + 1) (heap_put hb o v))
def HeldT (w : World) (g : Nat) (t : TypeId) (cs : List Value) : Prop := w.heap[g]? = some (.cells cs.toArray t (0, 0))
theorem HeldT.held {w : World} {g : Nat} {t : TypeId} {cs : List Value} (h : HeldT w g t cs) : Held w g cs := ⟨t, h⟩
theorem HeldT.new {w : World} {g : Nat} {cs : List Value} {t : TypeId} (hg : g = w.heap.size) : HeldT (w.alloc (.cells cs.toArray t (0, 0))) g t cs := heap_at w _ hg
theorem HeldT.below {w w' : World} {B g : Nat} {t : TypeId} {cs : List Value} (h : HeldT w g t cs) (hb : Below B w w') (hg : g < B) : HeldT w' g t cs := (hb.block g hg).trans h
theorem HeldT.lt {w : World} {g : Nat} {t : TypeId} {cs : List Value} (h : HeldT w g t cs) : g < w.heap.size := h.held.lt
theorem HeldT.ext {w w' : World} {g : Nat} {t : TypeId} {cs : List Value} (h : HeldT w g t cs) (hb : Below w.heap.size w w') : HeldT w' g t cs := h.below hb h.lt
theorem HeldT.alloc {w : World} {g : Nat} {t : TypeId} {cs : List Value} (h : HeldT w g t cs) (o : Obj) : HeldT (w.alloc o) g t cs := h.ext ((Below.refl _ _).alloc (Nat.le_refl _) _)
theorem HeldT.set {w : World} {g : Nat} {t : TypeId} {cs : List Value} (h : HeldT w g t cs) (i : Nat) (v : Value) : HeldT (w.setCell ⟨g, i, none⟩ v) g t (cs.set i v) := by
 unfold HeldT at *
 rw [heap_put h]
 simp
theorem HeldT.other {w : World} {g g' : Nat} {t : TypeId} {cs : List Value} (h : HeldT w g t cs) (hne : g ≠ g') (i : Nat) (v : Value) : HeldT (w.setCell ⟨g', i, none⟩ v) g t cs :=
 (Below.heap_setCell w ⟨g', i, none⟩ v g (fun e => hne e)).trans h
theorem HeldT.puts {w : World} {G : Nat} {t : TypeId} {cs : List Value} (h : HeldT w G t cs) : ∀ (vs : List Value) (o : Nat), HeldT (w.setCells G o vs) G t (putL cs o vs) := by
 intro vs
 induction vs generalizing w cs with
 | nil => intro o; exact h
 | cons v r ih => intro o; exact ih (h.set o v) (o + 1)
theorem HeldT.all {w : World} {G : Nat} {t : TypeId} {cs : List Value} (h : HeldT w G t cs) (vs : List Value) (hl : vs.length = cs.length) : HeldT (w.setCells G 0 vs) G t vs := by
 have e := putL_mid vs cs [] [] hl
 simp only [List.nil_append, List.append_nil, List.length_nil] at e
 have := h.puts vs 0
 rwa [e] at this
theorem HeldT.far {w : World} {g g' : Nat} {t : TypeId} {cs : List Value} (h : HeldT w g t cs) (hne : g ≠ g') : ∀ (vs : List Value) (o : Nat), HeldT (w.setCells g' o vs) g t cs := by
 intro vs
 induction vs generalizing w with
 | nil => intro o; exact h
 | cons v r ih => intro o; exact ih (h.other hne o v) (o + 1)
theorem flat_mid (a : List (List Value)) (c : List Value) (b : List (List Value)) : (a ++ c :: b).flatten = a.flatten ++ (c ++ b.flatten) := by simp
theorem one_cell_of {sz : Nat} {α : Type} {R : List Value → α → Prop} (hR : ∀ c x, R c x → ∀ u ∈ c, u.oneCell' = true) : ∀ {cs : List (List Value)} {xs : List α}, Al2 R sz cs xs → ∀ u ∈ cs.flatten, u.oneCell' = true
 | [], [], _, u, hu => by simp at hu
 | c :: cs, x :: xs, h, u, hu => by
  rw [List.flatten_cons, List.mem_append] at hu
  rcases hu with hu | hu
  ·exact hR c x h.1.2 u hu
  exact one_cell_of hR h.2 u hu
 | [], _ :: _, h, _, _ => h.elim
 | _ :: _, [], h, _, _ => h.elim
theorem rn_one (c : List Value) (x : Rn) (h : c = x.cs) : ∀ u ∈ c, u.oneCell' = true := by
 subst h; intro u hu; unfold Rn.cs at hu; simp at hu; rcases hu with rfl | rfl | rfl | rfl | rfl <;> rfl
theorem rg_one (c : List Value) (x : Rg) (h : c = x.cs) : ∀ u ∈ c, u.oneCell' = true := by
 subst h; intro u hu; unfold Rg.cs at hu; simp at hu; rcases hu with rfl | rfl | rfl | rfl | rfl | rfl | rfl <;> rfl
theorem cm_one (c : List Value) (x : Cm) (h : c = x.cs) : ∀ u ∈ c, u.oneCell' = true := by
 subst h; intro u hu; unfold Cm.cs at hu; simp at hu; rcases hu with rfl | rfl | rfl | rfl | rfl | rfl | rfl | rfl <;> rfl
theorem rw_one {w : World} (c : List Value) (x : List Rn) (h : RowC w c x) : ∀ u ∈ c, u.oneCell' = true := by
 obtain ⟨v, rfl, hv⟩ := h
 obtain ⟨A, cc, rfl⟩ := SeqAt.form hv
 intro u hu; simp at hu; subst hu; rfl
theorem ev_one {w : World} (c : List Value) (x : Ev) (h : EvC w c x) : ∀ u ∈ c, u.oneCell' = true := by
 obtain ⟨v, rfl, hv⟩ := h
 obtain ⟨A, cc, rfl⟩ := SeqAt.form hv
 intro u hu; unfold Ev.cs at hu; simp at hu; rcases hu with rfl | rfl | rfl | rfl | rfl | rfl | rfl <;> rfl
def RowsOk (rows : List (List Rn)) : Prop := rows.length ≤ 2000000 ∧ ∀ r ∈ rows, r.length ≤ 2000000
theorem sclone_any (v : Value) (rows : List (List Rn)) (w : World) (h : RowsAt w v rows) (ho : RowsOk rows) :
  Calls Tryz.prog 95 #[v] w fun e w' => (∃ v', e = .returned v' ∧ RowsT w' v' rows) ∧ Below w.heap.size w w' := by
 obtain ⟨A, c, rfl⟩ := h.form
 obtain ⟨cs, hal, hnil, hcl⟩ := SeqAt.cells h
 have HAL := ι hal
 have hrl := ho.1
 have HRO := ι ho.2
 have HCL := ι (cloneRw_any A rows.length c cs.flatten w (Al2.flat hal) (fun e => by rw [hnil e]; rfl) hcl (one_cell_of rw_one hal) hrl)
 clear hal hnil hcl h ho
 obtain ⟨D, hD⟩ : ∃ D, D = w.heap.size := ⟨_, rfl⟩
 have HD := ι hD
 rw [← hD] at HCL
 clear hD
 go_enter Tryz.func95, Tryz.ntmps95
 go_wp2_with fail
 refine HCL.out.mono ?_
 rintro e w1 ⟨⟨v1, rfl, ho1⟩, hb1⟩
 have B1 := ι hb1
 have HO1 := ι ho1
 clear hb1 ho1 HCL
 obtain ⟨A1, c1, e1, _⟩ := row_of_ownK HO1.out
 subst e1
 go_wp2_with fail
 go_loopw [9] (fun i wr => ∃ k : Nat, k ≤ rows.length ∧ i = .int .i64 k ∧ Hid (∃ d1 d2, Al2 (RowT wr) 1 d1 (rows.take k) ∧ Al2 (RowC w) 1 d2 (rows.drop k) ∧ wr.ownsRow D 164 1 (.slice A1 rows.length c1) rows.length (d1 ++ d2).flatten) ∧ Hid (Below D w wr)) (fun i _ => rows.length - (intOf i).toNat)
 case atStart => exact ⟨0, Nat.zero_le _, rfl, ι ⟨[], cs, trivial, HAL.out, HO1.out⟩, B1⟩
 case round =>
 obtain ⟨k, hk, rfl, HX, BR⟩ := hrel
 have hDr : D ≤ wr.heap.size := by have := BR.out.size; have := HD.out; omega
 by_cases hlt : k < rows.length
 ·have hlt2 : (k : Int) < (rows.length : Int) := by omega
  obtain ⟨x, hx⟩ : ∃ x, rows[k]? = some x := ⟨_, List.getElem?_eq_getElem hlt⟩
  obtain ⟨d1, d2, a1, a2, a3⟩ := HX.out
  have edr : rows.drop k = x :: rows.drop (k + 1) := by rw [List.drop_eq_getElem_cons hlt]; rw [(List.getElem?_eq_some_iff.1 hx).2]
  have etk : rows.take (k + 1) = rows.take k ++ [x] := by rw [List.take_add_one, hx]; rfl
  rw [edr] at a2
  obtain ⟨y, d3, rfl⟩ : ∃ y d3, d2 = y :: d3 := by
   cases d2 with
   | nil => exact a2.elim
   | cons y d3 => exact ⟨y, d3, rfl⟩
  obtain ⟨⟨hy1, v2, rfl, hv2⟩, a4⟩ := a2
  have hd1 : d1.flatten.length = k := by rw [Al2.flat a1, List.length_take, Nat.mul_one]; omega
  rw [flat_mid] at a3
  have HA1 := ι a1
  have HA4 := ι a4
  have HEK := ι etk
  have HLK := ι hd1
  have hxl := HRO.out x (List.mem_of_getElem? hx)
  have hv3 : RunsAt wr v2 x := hv2.ext (Flat.stays _) (HD.out ▸ BR.out)
  obtain ⟨A2, c2, rfl⟩ := hv3.form
  obtain ⟨rs, r1, r2, r3⟩ := SeqAt.cells hv3
  have HRC := ι (cloneRn_any A2 x.length c2 rs.flatten wr (Al2.flat r1) (fun e => by rw [r2 e]; rfl) r3 (one_cell_of rn_one r1) hxl)
  have HR1 := ι r1
  obtain ⟨g, cap, e3⟩ : ∃ g cap, (Value.slice A1 rows.length c1) = .slice (some ⟨g, 0, none⟩) rows.length cap := by
   obtain ⟨m, hm⟩ : ∃ m, rows.length = m + 1 := ⟨rows.length - 1, by omega⟩
   have := a3
   rw [hm] at this
   obtain ⟨g, cap, e⟩ := ownsRow_succ this
   exact ⟨g, cap, by rw [hm]; exact e⟩
  injection e3 with e4 _ e5
  subst e4
  subst e5
  have HO3 := ι a3
  have q0 : wr.cell? ⟨g, k, none⟩ = some (.slice A2 x.length c2) := by
   have := a3.cells (g := g) rfl k (.slice A2 x.length c2) (by rw [List.getElem?_append_right (by omega), hd1, Nat.sub_self]; rfl)
   rwa [Addr.add_lit, Nat.zero_add] at this
  have hgr : g < wr.heap.size := World.block_lt_of_cell? wr _ q0
  clear hx edr etk a1 a3 a4 hd1 hv2 hv3 r1 r2 r3 HX hy1
  go_wp2_with fail
  refine HRC.out.mono ?_
  rintro e w2 ⟨⟨v4, rfl, ho4⟩, hb4⟩
  obtain ⟨A4, c4, e4, _⟩ := row_of_ownK ho4
  subst e4
  have HO4 := ι (own_ext HO3.out hb4)
  have B4 := ι (BR.out.trans (hb4.mono hDr))
  have RT4 := ι (show RunsT w2 (.slice A4 x.length c4) x from OwnS.typed (base := wr.heap.size) ⟨rs, HR1.out, ho4⟩ (by decide))
  have KT4 := ι (show KeepS IsRun wr w2 from KeepS.ext hb4)
  have y0 := own_free HO4.out k
  have y1 : w2.cell? ⟨g, k, none⟩ = some (.slice A2 x.length c2) := by
   have := HO4.out.cells (g := g) rfl k (.slice A2 x.length c2) (by rw [List.getElem?_append_right (Nat.le_of_eq HLK.out), HLK.out, Nat.sub_self]; rfl)
   rwa [Addr.add_lit, Nat.zero_add] at this
  have hg2 : g < w2.heap.size := by have := hb4.size; omega
  clear ho4 hb4 HO3 HRC HR1 q0
  go_wp2_with fail
  generalize hw5 : World.setCell w2 _ _ = w5
  have hhb := own_block HO4.out (g := g) rfl
  have KT5 := ι (show KeepS IsRun w2 w5 by
   subst hw5
   obtain ⟨cur, hh⟩ := hhb
   exact KeepS.put hh (by unfold IsRun; decide) k (.slice A4 x.length c4))
  have HO5 := ι (show w5.ownsRow D 164 1 (.slice (some ⟨g, 0, none⟩) rows.length c1) rows.length (d1.flatten ++ ([(.slice A4 x.length c4)] ++ d3.flatten)) by
   subst hw5
   have := own_cell HO4.out k (.slice A4 x.length c4) (by rw [List.length_append, HLK.out]; simp)
   rwa [List.set_append_right _ _ (Nat.le_of_eq HLK.out), HLK.out, Nat.sub_self] at this)
  have B5 := ι (show Below D w w5 by subst hw5; exact B4.out.setCell (p := ⟨g, k, none⟩) (own_base HO4.out g rfl) (.slice A4 x.length c4))
  clear hw5 hhb
  go_roundw
  case rel =>
   refine ⟨k + 1, by omega, by go_num, ι ⟨d1 ++ [[Value.slice A4 x.length c4]], d3, ?_, HA4.out, ?_⟩, B5⟩
   ·rw [HEK.out]
    exact Al2.app (HA1.out.mono (fun c x h => (h.keep KT4.out).keep KT5.out)) (Al2.one rfl ⟨Value.slice A4 x.length c4, rfl, RT4.out.keep KT5.out⟩)
   have e : ((d1 ++ [[Value.slice A4 x.length c4]]) ++ d3).flatten = d1.flatten ++ ([Value.slice A4 x.length c4] ++ d3.flatten) := by simp
   rw [e]
   exact HO5.out
  case measure => simp [intOf]; omega
 obtain rfl : k = rows.length := by omega
 have HE := ι (show RowsT wr (.slice A1 rows.length c1) rows by
  obtain ⟨d1, d2, a1, a2, a3⟩ := HX.out
  rw [List.take_length] at a1
  rw [List.drop_length] at a2
  obtain rfl : d2 = [] := by
   cases d2 with
   | nil => rfl
   | cons _ _ => exact a2.elim
  rw [List.append_nil] at a3
  exact OwnS.typed (base := D) ⟨d1, a1, a3⟩ (by decide))
 clear hlt HX
 go_wp2_with fail
 go_ret
 exact ⟨⟨_, rfl, HE.out⟩, HD.out ▸ BR.out⟩
theorem eclone_any (x : Ev) (r : Value) (w : World) (h : RowsAt w r x.rows) (ho : RowsOk x.rows) :
  Calls Tryz.prog 61 #[x.v r] w fun e w' => (∃ r', e = .returned (x.v r') ∧ RowsT w' r' x.rows) ∧ Below w.heap.size w w' := by
 have H := ι h
 have HO := ι ho
 clear h ho
 obtain ⟨G, hG⟩ : ∃ G, G = w.heap.size := ⟨_, rfl⟩
 rw [show x.v r = .agg #[.int .i64 x.id, .int .i64 x.i, .int .i64 x.o, .string (sB x.reg), .int .u8 x.kind, .string (sB x.spk), r] from rfl]
 go_enter Tryz.func61, Tryz.ntmps61
 go_wp2_with fail
 rw [← hG]
 generalize hw1 : World.alloc (World.alloc w _) _ = w1
 have F1 := ι (show HeldT w1 G 55 (x.cs r) by subst hw1; exact (HeldT.new hG).alloc _)
 have R1 := ι (show HeldT w1 (G + 1) 55 [.int .i64 0, .int .i64 0, .int .i64 0, .string ⟨#[]⟩, .int .u8 0, .string ⟨#[]⟩, .slice none 0 0] by subst hw1; exact HeldT.new (by simp [hG]))
 have B1 := ι (show Below w.heap.size w w1 by subst hw1; exact (Below.more' _ _).alloc (by simp) _)
 have HG0 := ι (show w.heap.size ≤ G by omega)
 clear hw1 hG
 refine (sclone_any r x.rows w1 (SeqAt.ext H.out RowC.stays B1.out) HO.out).mono ?_
 rintro e w2 ⟨⟨r', rfl, hr⟩, hb⟩
 obtain ⟨A', c', rfl⟩ := hr.r.form
 have RT2 := ι hr
 have B2 := ι (B1.out.trans (hb.mono B1.out.size))
 have F2 := ι (F1.out.ext hb)
 have R2 := ι (R1.out.ext hb)
 clear hb hr F1 R1 B1
 have fq := F2.out.held.cell
 have fy := F2.out.held.free
 have hG2 := F2.out.lt
 have rq := R2.out.held.cell
 have ry := R2.out.held.free
 have hR2 := R2.out.lt
 unfold Ev.cs at fq
 go_wp2_with (with_reducible refine stop_at ?_)
 unfold StopAt
 clear fq fy rq ry
 generalize hw3 : World.setCell _ _ _ = w3
 have R3 := ι (show HeldT w3 (G + 1) 55 (x.cs (.slice A' x.rows.length c')) by subst hw3; exact (R2.out.other (by omega) 6 _).all (x.cs (.slice A' x.rows.length c')) rfl)
 have B3 := ι (show Below w.heap.size w w3 by subst hw3; exact Below.all (Nat.le_succ_of_le HG0.out) (x.cs (.slice A' x.rows.length c')) 0 (B2.out.setCell (p := ⟨G, 6, none⟩) HG0.out _))
 have K3 := ι (show KeepT w2 w3 by subst hw3; exact (KeepS.put F2.out (by unfold IsRow; decide) 6 _).trans (KeepS.puts (ty := 55) (by unfold IsRow; decide) (x.cs (.slice A' x.rows.length c')) 0 (R2.out.other (by omega) 6 _)))
 have fr := R3.out.held.cell
 unfold Ev.cs at fr
 refine bodyPost_ret (by simp [results, Tryz.results61, fr, go_sem]; try rfl) rfl ?_
 exact ⟨⟨_, rfl, RT2.out.keep K3.out⟩, B3.out⟩
end Go.Proofs.YtmopjhbfobmklaaGreatDoor
