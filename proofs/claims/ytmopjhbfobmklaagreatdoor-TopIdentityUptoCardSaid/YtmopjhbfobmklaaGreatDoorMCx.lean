/-
  Reels, documents, lists, plain. The conditions of the contracts are their hypotheses.
-/
import Derived.Test.YtmopjhbfobmklaaGreatDoorMH0
import Derived.Test.YtmopjhbfobmklaaGreatDoorMG3
set_option maxRecDepth 100000
set_option maxHeartbeats 40000000
namespace Go.Proofs.YtmopjhbfobmklaaGreatDoor
open Go.RowKit Go.Joins
set_option linter.unusedVariables false
set_option linter.unusedSimpArgs false
structure RdsOk (l : List Rd) : Prop where
 len : l.length ≤ 2000000
 docs : ∀ x ∈ l, DcOk x.doc
def dc0 : Dc := ⟨[], [], 0, false, 0, [], [], []⟩
def docL (nm : List UInt8) : List Rd → Dc × Bool
 | [] => (dc0, false)
 | x :: t => if x.reel = nm then (x.doc, true) else docL nm t
theorem dc0_at (w : World) : DocAt w dc0 (.slice none 0 0) (.slice none 0 0) (.slice none 0 0) := ⟨SeqAt.nil _ _ _, SeqAt.nil _ _ _, SeqAt.nil _ _ _⟩
theorem RdsAt.get2 {w w' : World} {A : Option Addr} {n c : Nat} {xs : List Rd} (h : RdsAt w (.slice A n c) xs) (hb : Below w.heap.size w w') {k : Nat} {x : Rd} (hx : xs[k]? = some x) :
  ∃ b o r e q, A = some ⟨b, o, none⟩ ∧ (w'.cell? ⟨b, o + k * 9, none⟩ = some (.string (sB x.reel)) ∧ w'.cell? ⟨b, o + k * 9 + 1, none⟩ = some (.string (sB x.doc.title)) ∧ w'.cell? ⟨b, o + k * 9 + 2, none⟩ = some (.string (sB x.doc.lang)) ∧ w'.cell? ⟨b, o + k * 9 + 3, none⟩ = some (.int .u8 x.doc.rate) ∧ w'.cell? ⟨b, o + k * 9 + 4, none⟩ = some (.bool x.doc.drop) ∧ w'.cell? ⟨b, o + k * 9 + 5, none⟩ = some (.int .i64 x.doc.last) ∧ w'.cell? ⟨b, o + k * 9 + 6, none⟩ = some r ∧ w'.cell? ⟨b, o + k * 9 + 7, none⟩ = some e ∧ w'.cell? ⟨b, o + k * 9 + 8, none⟩ = some q) ∧ DocAt w x.doc r e q := by
 obtain ⟨b, o, r, e, q, hA, ⟨q0, q1, q2, q3, q4, q5, q6, q7, q8⟩, hd⟩ := RdsAt.get h hx
 have f : ∀ {p u}, w.cell? p = some u → w'.cell? p = some u := fun {p u} h => (hb.cell (World.block_lt_of_cell? w _ h)).trans h
 exact ⟨b, o, r, e, q, hA, ⟨f q0, f q1, f q2, f q3, f q4, f q5, f q6, f q7, f q8⟩, hd⟩
structure CutG (x : Ct) : Prop where
 i0 : 0 ≤ x.i
 io : x.i < x.o
 o1 : x.o ≤ 5184000
 s0 : 0 ≤ x.src
 s1 : x.src < 5184000
 sp : spdB (pcOf x) = true
 la : lastV x < 5184000
theorem cutE_ok {c : Ct} {day : Int} (h : cutE c day = 0) (hd : day ≤ 5184000) : CutG c := by
 unfold cutE at h
 split at h
 ·omega
 split at h
 ·omega
 split at h
 ·omega
 split at h
 ·omega
 split at h
 ·omega
 rename_i h1 h2 h3 h4 h5
 exact ⟨by omega, by omega, by omega, by omega, by omega, by simpa using h4, by omega⟩
theorem cutL_ok {l : List Ct} {day : Int} : ∀ {t : List Ct} {k : Nat}, cutL l day k t = 0 → ∀ j x, t[j]? = some x → cutN l day (k + j) x = 0
 | [], k, _, j, x, hx => by simp at hx
 | y :: t, k, h, j, x, hx => by
  unfold cutL at h
  by_cases h0 : cutN l day k y = 0
  ·rw [if_pos h0] at h
   cases j with
   | zero => cases hx; exact h0
   | succ j =>
    have := cutL_ok h j x (by simpa using hx)
    rwa [show k + (j + 1) = k + 1 + j by omega]
  rw [if_neg h0] at h
  exact absurd h h0
theorem cutN_ok {l : List Ct} {day : Int} {k : Nat} {x : Ct} (h : cutN l day k x = 0) : cutE x day = 0 ∧ ∀ y, prv l k = some y → y.o ≤ x.i := by
 unfold cutN at h
 by_cases a1 : x.num < 1 ∨ 999 < x.num
 ·rw [if_pos a1] at h
  omega
 rw [if_neg a1] at h
 cases hp : prv l k with
 | none =>
  rw [hp] at h
  simp only [Bool.false_eq_true, if_false] at h
  by_cases a3 : cutE x day = 0
  ·exact ⟨a3, fun y hy => by cases hy⟩
  rw [if_pos a3] at h
  exact absurd h a3
 | some y =>
  rw [hp] at h
  simp only [decide_eq_true_eq] at h
  by_cases a2 : x.num ≤ y.num
  ·rw [if_pos a2] at h
   omega
  rw [if_neg a2] at h
  by_cases a3 : cutE x day = 0
  ·rw [if_neg (by simpa using a3)] at h
   by_cases a4 : x.i < y.o
   ·rw [if_pos a4] at h
    omega
   exact ⟨a3, fun z hz => by cases hz; omega⟩
  rw [if_pos a3] at h
  exact absurd h a3
def Ord2 : List Ct → Prop
 | [] => True
 | x :: t => CutG x ∧ (∀ y ∈ t, x.o ≤ y.i) ∧ Ord2 t
theorem Ord2.cut : ∀ {l : List Ct}, Ord2 l → ∀ x ∈ l, CutG x
 | [], _, x, hx => by cases hx
 | y :: t, h, x, hx => by
  rcases List.mem_cons.1 hx with rfl | hx
  ·exact h.1
  exact Ord2.cut h.2.2 x hx
theorem ord2_of : ∀ {l : List Ct}, (∀ x ∈ l, CutG x) → (∀ k x y, l[k]? = some x → l[k + 1]? = some y → x.o ≤ y.i) → Ord2 l
 | [], _, _ => trivial
 | x :: t, h1, h2 => by
  have ih : Ord2 t := ord2_of (fun y hy => h1 y (List.mem_cons_of_mem _ hy)) (fun k a b ha hb => h2 (k + 1) a b (by simpa using ha) (by simpa using hb))
  refine ⟨h1 x (List.mem_cons_self ..), ?_, ih⟩
  cases t with
  | nil => intro y hy; cases hy
  | cons z r =>
   have hz := h2 0 x z rfl rfl
   intro y hy
   rcases List.mem_cons.1 hy with rfl | hy
   ·exact hz
   have := ih.2.1 y hy
   have := ih.1.io
   omega
theorem lst_ok {d : Lst} (h : lstE d = 0) : Ord2 d.cuts ∧ d.cuts.length ≤ 64 := by
 unfold lstE at h
 split at h
 ·omega
 split at h
 ·omega
 split at h
 ·omega
 split at h
 ·omega
 rename_i h1 h2 h3 h4
 have hc : cutL d.cuts (dayV d.rate d.drop) 0 d.cuts = 0 := by
  split at h
  ·rename_i h5
   exact absurd h h5
  rename_i h5
  exact Decidable.not_not.1 h5
 have hd := (dayV_le d.rate d.drop).2
 have hn : ∀ j x, d.cuts[j]? = some x → cutN d.cuts (dayV d.rate d.drop) j x = 0 := fun j x hx => by
  have := cutL_ok hc j x hx
  rwa [Nat.zero_add] at this
 refine ⟨ord2_of (fun x hx => ?_) (fun k x y hx hy => ?_), by omega⟩
 ·obtain ⟨j, hj⟩ := List.getElem?_of_mem hx
  exact cutE_ok (cutN_ok (hn j x hj)).1 hd
 have e := (cutN_ok (hn (k + 1) y hy)).2
 have ep : prv d.cuts (k + 1) = some x := by
  unfold prv
  rw [if_neg (by omega)]
  exact hx
 exact e x ep
def atL (rec : Int) : List Ct → List UInt8 × Int × Bool
 | [] => ([], 0, false)
 | c :: t => if c.i ≤ rec ∧ rec < c.o then (c.reel, ledP (pcOf c) rec, true) else atL rec t
def atG (d : Lst) (rec : Int) : List UInt8 × Int × Bool := if lstE d = 0 then atL rec d.cuts else ([], 0, false)
def plyL (nm : List UInt8) (l : List Ct) : List Spn := l.flatMap fun c => if c.reel = nm then [⟨c.src, lastV c + 1⟩] else []
def plyG (d : Lst) (nm : List UInt8) : List Spn × Int := if lstE d = 0 then norS (plyL nm d.cuts) else ([], lstE d)
theorem ply_step {nm : List UInt8} {l : List Ct} {k : Nat} {x : Ct} (hk : l[k]? = some x) : plyL nm (l.take (k + 1)) = plyL nm (l.take k) ++ (if x.reel = nm then [⟨x.src, lastV x + 1⟩] else []) := by
 unfold plyL
 rw [List.take_add_one, hk, List.flatMap_append]
 simp
theorem ply_len (nm : List UInt8) : ∀ l : List Ct, (plyL nm l).length ≤ l.length
 | [] => Nat.le_refl _
 | x :: t => by
  have := ply_len nm t
  unfold plyL at *
  rw [List.flatMap_cons, List.length_append, List.length_cons]
  have h1 : (if x.reel = nm then [(⟨x.src, lastV x + 1⟩ : Spn)] else []).length ≤ 1 := by split <;> simp
  omega
def goonB (a b : Ct) : Bool :=
 (((decide (a.reel = b.reel) && (decide (a.sn = 1) && decide (a.sd = 1))) && (decide (b.sn = 1) && decide (b.sd = 1))) && decide (a.o = b.i)) && decide (a.src + a.o - a.i = b.src)
def jstC (out : List Ct) (c : Ct) : List Ct :=
 match out with
 | [] => [c]
 | l :: r => if goonB l c = true then ⟨l.num, l.reel, l.src, l.i, c.o, l.sn, l.sd⟩ :: r else c :: l :: r
def jnR (l : List Ct) (k : Nat) : List Ct := (l.take k).foldl jstC []
def jnF (l : List Ct) (k : Nat) : List Ct := (jnR l k).reverse
def jnC (l : List Ct) : List Ct := (l.foldl jstC []).reverse
theorem jnF_all (l : List Ct) : jnF l l.length = jnC l := by unfold jnF jnR jnC; rw [List.take_length]
theorem jnR_step {l : List Ct} {k : Nat} {x : Ct} (hk : l[k]? = some x) : jnR l (k + 1) = jstC (jnR l k) x := by
 unfold jnR
 rw [List.take_add_one, hk, Option.toList_some, List.foldl_append]
 rfl
theorem jnF_cases (l : List Ct) (k : Nat) : jnF l k = [] ∨ ∃ M z, jnF l k = M ++ [z] := by
 unfold jnF
 cases h : jnR l k with
 | nil => exact .inl rfl
 | cons z r => exact .inr ⟨r.reverse, z, by rw [List.reverse_cons]⟩
theorem jnF_nil {l : List Ct} {k : Nat} {x : Ct} (hk : l[k]? = some x) (h : jnF l k = []) : jnF l (k + 1) = [x] := by
 have e : jnR l k = [] := by unfold jnF at h; simpa using h
 unfold jnF
 rw [jnR_step hk, e]
 rfl
theorem jnF_more {l : List Ct} {k : Nat} {x z : Ct} {M : List Ct} (hk : l[k]? = some x) (h : jnF l k = M ++ [z]) : jnF l (k + 1) = if goonB z x = true then M ++ [⟨z.num, z.reel, z.src, z.i, x.o, z.sn, z.sd⟩] else (M ++ [z]) ++ [x] := by
 have e : jnR l k = z :: M.reverse := by
  unfold jnF at h
  have := congrArg List.reverse h
  rw [List.reverse_reverse] at this
  rw [this]
  simp
 unfold jnF
 rw [jnR_step hk, e]
 unfold jstC
 by_cases hg : goonB z x = true
 ·simp [hg]
 simp [hg]
theorem jnR_len (l : List Ct) : ∀ k, (jnR l k).length ≤ k
 | 0 => by unfold jnR; simp
 | k + 1 => by
  have ih := jnR_len l k
  cases hx : l[k]? with
  | none =>
   unfold jnR at *
   rw [List.take_add_one, hx]
   simpa using Nat.le_succ_of_le ih
  | some x =>
   rw [jnR_step hx]
   unfold jstC
   cases h : jnR l k with
   | nil => simp
   | cons z r =>
    rw [h] at ih
    simp only [List.length_cons] at ih
    simp only []
    split <;> simp only [List.length_cons] <;> omega
theorem jnF_len (l : List Ct) (k : Nat) : (jnF l k).length ≤ k := by unfold jnF; rw [List.length_reverse]; exact jnR_len l k
end Go.Proofs.YtmopjhbfobmklaaGreatDoor
