/-
  Streams of byte pairs, in plain words: the normal form, the text, and the reading of a text.
-/
import Derived.Test.YtbliilemjkjimaaDoorSp
namespace Go.Proofs.YtbliilemjkjimaaDoor
abbrev Pr := UInt8 × UInt8
def isN (p : Pr) : Bool := decide (p = (128, 128))
def prs : List UInt8 → List Pr
  | a :: b :: r => (a, b) :: prs r
  | _ => []
def flat : List Pr → List UInt8
  | [] => []
  | p :: r => p.1 :: p.2 :: flat r
theorem prs_flat : ∀ (l : List Pr), prs (flat l) = l
  | [] => rfl
  | p :: r => by rw [flat, prs, prs_flat r]
theorem flat_len : ∀ (l : List Pr), (flat l).length = 2 * l.length
  | [] => rfl
  | p :: r => by simp [flat, flat_len r]; omega
theorem flat_app : ∀ (l r : List Pr), flat (l ++ r) = flat l ++ flat r
  | [], r => rfl
  | p :: l, r => by simp [flat, flat_app l r]
/-- Without null pairs at the end. -/
def trim : List Pr → List Pr
  | [] => []
  | p :: r => if trim r = [] ∧ isN p = true then [] else p :: trim r
def lead (l : List Pr) : Nat := (l.takeWhile isN).length
def mid (l : List Pr) : List Pr := trim (l.dropWhile isN)
def nuls (n : Nat) : List Pr := List.replicate n (128, 128)
theorem isN_eq {p : Pr} : isN p = true ↔ p = (128, 128) := by simp [isN]
theorem trim_nuls : ∀ (l : List Pr), l = trim l ++ nuls (l.length - (trim l).length) ∧ (trim l).length ≤ l.length
  | [] => ⟨rfl, Nat.le_refl _⟩
  | p :: r => by
    have ⟨h, h2⟩ := trim_nuls r
    rw [trim]
    split
    · rename_i hc
      rw [hc.1] at h
      refine ⟨?_, by simp⟩
      simp only [List.nil_append, List.length_nil, Nat.sub_zero] at h ⊢
      rw [isN_eq.1 hc.2]
      simp only [nuls, List.length_cons, List.replicate_succ]
      rw [← nuls, ← h]
    · refine ⟨?_, by simp; omega⟩
      simp only [List.cons_append, List.length_cons, Nat.add_sub_add_right]
      rw [← h]
theorem trim_app_nuls : ∀ (l : List Pr) (n : Nat), trim (l ++ nuls n) = trim l
  | [], n => by
    induction n with
    | zero => rfl
    | succ n ih =>
      have ih : trim (nuls n) = [] := ih
      show trim ((128, 128) :: nuls n) = []
      rw [trim, ih, if_pos ⟨rfl, by decide⟩]
  | p :: r, n => by rw [List.cons_append, trim, trim_app_nuls r n]; rfl
theorem trim_trim (l : List Pr) : trim (trim l) = trim l := by
  have h := (trim_nuls l).1
  rw [← trim_app_nuls (trim l) (l.length - (trim l).length), ← h]
theorem trim_last {p : Pr} (h : isN p = false) : ∀ (l : List Pr), trim (l ++ [p]) = l ++ [p]
  | [] => by simp [trim, h]
  | q :: l => by rw [List.cons_append, trim, trim_last h l, if_neg (by simp)]
theorem mid_head {l : List Pr} {p : Pr} {r : List Pr} (h : mid l = p :: r) : isN p = false := by
  unfold mid at h
  have := (trim_nuls (l.dropWhile isN)).1
  rw [h] at this
  have h2 := List.head?_dropWhile_not isN l
  rw [this] at h2
  simpa using h2
theorem drop_mid (l : List Pr) : (mid l).dropWhile isN = mid l := by
  cases h : mid l with
  | nil => rfl
  | cons p r => rw [List.dropWhile_cons_of_neg (by simp [mid_head h])]
theorem mid_mid (l : List Pr) : mid (mid l) = mid l := by
  rw [mid, drop_mid, mid, trim_trim]
theorem lead_mid (l : List Pr) : lead (mid l) = 0 := by
  unfold lead
  cases h : mid l with
  | nil => rfl
  | cons p r => rw [List.takeWhile_cons_of_neg (by simp [mid_head h])]; rfl
theorem lead_split (l : List Pr) : l = nuls (lead l) ++ l.dropWhile isN := by
  conv => lhs; rw [← List.takeWhile_append_dropWhile (p := isN) (l := l)]
  congr 1
  have : ∀ p ∈ l.takeWhile isN, p = (128, 128) := fun p hp => isN_eq.1 (by have := List.all_takeWhile (p := isN) (l := l); exact List.all_eq_true.1 this p hp)
  exact List.eq_replicate_of_mem this
/-- The normal form: the first frame and the pairs. -/
def normV (f : Int) (l : List Pr) : Int × List Pr := if mid l = [] then (0, []) else (f + lead l, mid l)
/-- The text of a stream. -/
def hx (n : Nat) : UInt8 := if n < 10 then UInt8.ofNat (48 + n) else UInt8.ofNat (87 + n)
def hex2 (b : UInt8) : List UInt8 := [hx (b.toNat / 16), hx (b.toNat % 16)]
def pr1 (p : Pr) : List UInt8 := 32 :: (hex2 p.1 ++ hex2 p.2)
/-- As the program writes it: ahead of each run a new line. -/
def outP (lab : Int → List UInt8) : Bool → Int → List Pr → List UInt8
  | _, _, [] => []
  | w, i, p :: r => if isN p = true then outP lab false (i + 1) r else (if w = true then [] else 10 :: lab i) ++ (pr1 p ++ outP lab true (i + 1) r)
/-- As the reference writes it: a line's end behind each run. -/
def fin1 : List Pr → List UInt8
  | [] => [10]
  | q :: _ => if isN q = true then [10] else []
def outR (lab : Int → List UInt8) : Bool → Int → List Pr → List UInt8
  | _, _, [] => []
  | w, i, p :: r => if isN p = true then outR lab false (i + 1) r else (if w = true then [] else lab i) ++ (pr1 p ++ (fin1 r ++ outR lab true (i + 1) r))
theorem out_same (lab : Int → List UInt8) : ∀ (l : List Pr) (w : Bool) (i : Int), outP lab w i l ++ [10] = (if w = true then fin1 l else [10]) ++ outR lab w i l
  | [], w, i => by cases w <;> rfl
  | p :: r, w, i => by
    by_cases h : isN p = true
    · have := out_same lab r false (i + 1)
      simp only [outP, outR, h, if_true, fin1]
      cases w <;> simpa using this
    · have := out_same lab r true (i + 1)
      simp only [if_true] at this
      have e : fin1 (p :: r) = [] := by simp [fin1, h]
      rw [outP, outR, if_neg h, if_neg h, e]
      cases w <;> simp [this]
def headL : List UInt8 := [83, 67, 67, 32, 49, 46, 48]
def labT (d : Bool) (f : Int) (i : Int) : List UInt8 := txtL (labV d (f + i))
def textP (f : Int) (l : List Pr) (d : Bool) : List UInt8 := headL ++ (outP (labT d f) false 0 l ++ [10])
def textR (f : Int) (l : List Pr) (d : Bool) : List UInt8 := headL ++ [10] ++ outR (labT d f) false 0 l
theorem text_same (f : Int) (l : List Pr) (d : Bool) : textP f l d = textR f l d := by
  unfold textP textR
  rw [out_same]
  simp
/-- The text of a stream whose form is right, or the error 2: it passes the day. -/
def late (f : Int) (l : List Pr) (d : Bool) : Prop := l ≠ [] ∧ dayV d ≤ f + l.length - 1
instance (f : Int) (l : List Pr) (d : Bool) : Decidable (late f l d) := inferInstanceAs (Decidable (_ ∧ _))
def printN (f : Int) (l : List Pr) (d : Bool) : List UInt8 × Int := if late f l d then ([], 2) else (textP f l d, 0)
/-- The first error of a stream. -/
def chkS (f : Int) (n : Nat) : Int := if n % 2 ≠ 0 then 1 else if 400000 < n then 9 else if f < 0 ∨ 5184000 < f then 2 else 0
def printV (f : Int) (s : List UInt8) (d : Bool) : List UInt8 × Int :=
  if chkS f s.length ≠ 0 then ([], chkS f s.length) else printN (normV f (prs s)).1 (normV f (prs s)).2 d
/-- The reading of a text. -/
def hv (b : UInt8) : Option Nat := if 48 ≤ b.toNat ∧ b.toNat ≤ 57 then some (b.toNat - 48) else if 97 ≤ b.toNat ∧ b.toNat ≤ 102 then some (b.toNat - 87) else none
def bv (a b : UInt8) : Option UInt8 := match hv a, hv b with
  | some x, some y => some (UInt8.ofNat (16 * x + y))
  | _, _ => none
/-- The pairs behind a label, or the place of the first byte that is wrong. -/
def prL (i : Nat) : List UInt8 → Except Nat (List Pr)
  | [] => .ok []
  | x :: a :: b :: c :: d :: r =>
    if x = 32 then
      match bv a b, bv c d with
      | some u, some v => (prL (i + 5) r).map ((u, v) :: ·)
      | _, _ => .error i
    else .error i
  | _ => .error i
def prV (s : List UInt8) : Except Nat (List Pr) := if s = [] then .error 0 else prL 0 s
structure Rd where
  begun : Bool
  drop : Bool
  first : Int
  ps : List Pr
def lineV (r : Rd) (s : List UInt8) : Except (Int × Int) Rd :=
  if s.length < 11 then .error (1, 4)
  else match labR (s.take 11) with
    | none => .error (1, 4)
    | some l =>
      if r.begun = true ∧ l.d ≠ r.drop then .error (1, 3)
      else match prV (s.drop 11) with
        | .error k => .error (12 + k, 4)
        | .ok p =>
          let first := if r.begun = true then r.first else frmV l
          let gap := frmV l - first - r.ps.length
          if gap < 0 then .error (1, 8)
          else if 200000 < r.ps.length + gap + p.length then .error (1, 9)
          else .ok ⟨true, l.d, first, r.ps ++ nuls gap.toNat ++ p⟩
/-- The lines behind the first one, from number n. -/
def linesV (n : Int) (r : Rd) : List (List UInt8) → Except (Int × Int × Int) Rd
  | [] => .ok r
  | s :: t => if s = [] then linesV (n + 1) r t else match lineV r s with
    | .error (c, e) => .error (n, c, e)
    | .ok r' => linesV (n + 1) r' t
def rd0 : Rd := ⟨false, false, 0, []⟩
/-- The stream of a text of at most 8 * MaxSource bytes, or where its first error lies. -/
def parseW : List (List UInt8) → Except (Int × Int × Int) (Int × List Pr)
  | [] => .error (1, 1, 4)
  | h :: t => if h ≠ headL then .error (1, 1, 4) else (linesV 2 rd0 t).map fun r => normV r.first r.ps
def parseV (s : List UInt8) : Except (Int × Int × Int) (Int × List Pr) := parseW (wordsC 10 s)
end Go.Proofs.YtbliilemjkjimaaDoor
