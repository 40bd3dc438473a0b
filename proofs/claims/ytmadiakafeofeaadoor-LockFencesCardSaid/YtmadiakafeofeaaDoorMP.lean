/-
  A map from reels to the last fence of each: what the block reads as, read and written. Without conditions.
-/
import Derived.Test.YtmadiakafeofeaaDoorF1
import Derived.Maps.Own
import Derived.Maps.OwnSet
import Derived.StringKeys
namespace Go.Proofs.YtmadiakafeofeaaDoor
open Go.RowKit Go.Joins
set_option linter.unusedVariables false
set_option linter.unusedSimpArgs false
abbrev DL := DataW Nat
def elD (a b : Int) : DL := .agg [.lit (.int .i64 a), .lit (.int .i64 b)]
def elV (a b : Int) : Value := .agg #[.int .i64 a, .int .i64 b]
/-- How an element reads. -/
def elR : Value → Option (DL × List MemPlace)
  | .agg cs => match cs.toList with
    | [.int .i64 a, .int .i64 b] => some (elD a b, [])
    | _ => none
  | _ => none
theorem elR_mk (a b : Int) : elR (elV a b) = some (elD a b, []) := rfl
theorem elR_inv {v : Value} {y : DL × List MemPlace} (h : elR v = some y) : ∃ a b, v = elV a b ∧ y = (elD a b, []) := by
  unfold elR at h
  split at h
  · rename_i cs
    split at h
    · rename_i a b e
      cases h
      refine ⟨a, b, ?_, rfl⟩
      unfold elV
      congr 1
      exact Array.toList_inj.1 e
    · cases h
  · cases h
theorem elD_inj {a b a' b' : Int} (h : elD a b = elD a' b') : a = a' ∧ b = b' := by
  simp [elD] at h
  exact h
theorem uMap : Tryd.prog.underlying 29 = some (.map 9 35) := by kernel_rfl
theorem uStr : Tryd.prog.underlying 9 = some .string := by kernel_rfl
theorem kStr : Maps.Keyed Tryd.prog 9 := Maps.string_keyed uStr
theorem infoE : (Tryd.prog.info? 35).map (fun i => (i.zero, i.size, i.bytes)) = some (some (.agg #[.int .i64 0, .int .i64 0]), 2, 16) := by kernel_rfl
theorem zE (w : World) : (zeroValue 35).run Tryd.prog w = .ok (elV 0 0) w := by
  obtain ⟨i0, h1, h2, h3, h4⟩ := info_parts infoE
  unfold elV
  simp [zeroValue, typeInfo, h1, h2, Result.andThen, go_sem]
/-- Block b is a map of at most n entries that says F. -/
def MapF (w : World) (b n : Nat) (F : Last) : Prop :=
  ∃ D : DL, w.ownsMap Tryd.prog 9 elR b n D ∧ ∀ (key : List UInt8) (z : DL), D.atKey (.string key) z = match F key with | some p => elD p.1 p.2 | none => z
theorem MapF.of_heap {w w' : World} {b n : Nat} {F : Last} (h : MapF w b n F) (e : w'.heap[b]? = w.heap[b]?) : MapF w' b n F := by
  obtain ⟨D, ⟨es, clock, hb, r⟩, hat⟩ := h
  exact ⟨D, ⟨es, clock, e.trans hb, r⟩, hat⟩
theorem MapF.lt {w : World} {b n : Nat} {F : Last} (h : MapF w b n F) : b < w.heap.size := by
  obtain ⟨D, h, _⟩ := h
  exact h.lt
theorem MapF.made (w : World) : MapF (w.alloc (.map #[] 0)) w.heap.size 0 (fun _ => none) :=
  ⟨.map [], World.ownsMap_made w _ _ _, fun key z => rfl⟩
/-- Look up a reel. -/
theorem MapF.look {w : World} {b n : Nat} {F : Last} (h : MapF w b n F) (c : Bool) {s : ByteArray} (hs : s.size ≤ maxLen) :
    (Instr.lookup 29 (.map (some b)) (.string s) c).run Tryd.prog w =
      .ok (if c then .tuple #[(match F s.data.toList with | some p => elV p.1 p.2 | none => elV 0 0), .bool (F s.data.toList).isSome] else (match F s.data.toList with | some p => elV p.1 p.2 | none => elV 0 0)) w := by
  obtain ⟨D, ⟨es, clock, hb, Ft, hn, rfl⟩, hat⟩ := h
  have hkey := WideMaps.keyOf_string_mk uStr hs
  rcases Maps.fit_look c kStr uMap (zE w) hb Ft hkey with ⟨hrun, _, h2⟩ | ⟨e0, y, _, _, hrun, hR, h2, _⟩
  · have h3 := hat s.data.toList .nil
    rw [h2] at h3
    rw [hrun]
    cases hF : F s.data.toList with
    | none => rfl
    | some p => rw [hF] at h3; cases h3
  · obtain ⟨x, z, e1, e2⟩ := elR_inv hR
    rw [hrun, e1]
    have h3 := hat s.data.toList .nil
    rw [h2, e2] at h3
    cases hF : F s.data.toList with
    | none => rw [hF] at h3; cases h3
    | some p =>
      rw [hF] at h3
      obtain ⟨rfl, rfl⟩ := elD_inj h3
      rfl
/-- Write a reel. -/
theorem MapF.put_at {D : DL} {F : Last} (hD : Maps.IsMap D) (hat : ∀ (key : List UInt8) (z : DL), D.atKey (.string key) z = match F key with | some p => elD p.1 p.2 | none => z) (k : List UInt8) (a b : Int) :
    ∀ (key : List UInt8) (z : DL), (D.put (.string k) (elD a b)).atKey (.string key) z = match setF F k (a, b) key with | some p => elD p.1 p.2 | none => z := by
  intro key z
  unfold setF
  by_cases h : key = k
  · subst h
    rw [if_pos rfl, Maps.atKey_put_same hD (by simp [WideAt.IsKeyLit])]
  · rw [if_neg h, Maps.atKey_put_other (by simpa using h), hat]
theorem wpList_putF {w : World} {ops : Array Oper} {rest : List Oper} {o : Oper} {a : Act} {Q : Exit → Act → World → Prop}
    (hg : o.guard = none) (m x v : Operand) (hop : o.op = Op.mapUpdate 29 m x v) {b n : Nat} {F : Last}
    (hm : a.eval m = .map (some b)) (h : MapF w b n F) (hn : n < maxLen) (s : ByteArray) (hs : s.size ≤ maxLen) (p q : Int) (hx : a.eval x = .string s) (hv : a.eval v = elV p q)
    (hK : ∀ w', MapF w' b (n + 1) (setF F s.data.toList (p, q)) → w.grownBy w' (some b) → wpList Tryd.prog ops Q rest (a.put o.dst undef) w') :
    wpList Tryd.prog ops Q (o :: rest) a w := by
  obtain ⟨D, hD, hat⟩ := h
  exact wpList_mapUpdate_own w hg m x v _ hop 9 35 kStr uMap elR b n D hm hD hn (.string s) (elV p q) (.string s.data.toList) hx hv (WideMaps.keyOf_string_mk uStr hs) (elD p q) [] (elR_mk p q)
    (fun w' h1 h2 => hK w' ⟨_, h1, MapF.put_at hD.isMap hat _ p q⟩ h2)
end Go.Proofs.YtmadiakafeofeaaDoor
