/-
  Maps from numbers to numbers, and from texts to numbers: what the block reads as, read and written. Without conditions.
-/
import Derived.Test.YtmopjhbfobmklaaGreatDoorMCs
import Derived.Test.YtmopjhbfobmklaaGreatDoorMCm
import Derived.Maps.Own
import Derived.Maps.OwnSet
import Derived.StringKeys
set_option maxRecDepth 100000
set_option maxHeartbeats 40000000
namespace Go.Proofs.YtmopjhbfobmklaaGreatDoor
open Go.RowKit Go.Joins
set_option linter.unusedVariables false
set_option linter.unusedSimpArgs false
abbrev DL := DataW Nat
def elR : Value → Option (DL × List MemPlace)
 | .int .i64 a => some (.lit (.int .i64 a), [])
 | _ => none
theorem elR_inv {v : Value} {y : DL × List MemPlace} (h : elR v = some y) : ∃ a, v = .int .i64 a ∧ y = (.lit (.int .i64 a), []) := by
 unfold elR at h
 split at h
 ·cases h
  exact ⟨_, rfl, rfl⟩
 cases h
theorem uMapI : Tryz.prog.underlying 114 = some (.map 2 3) := by kernel_rfl
theorem uMapS : Tryz.prog.underlying 90 = some (.map 9 3) := by kernel_rfl
theorem uI64 : Tryz.prog.underlying 2 = some (.int .i64) := by kernel_rfl
theorem uStr : Tryz.prog.underlying 9 = some .string := by kernel_rfl
theorem kI64 : Maps.Keyed Tryz.prog 2 := Maps.int_keyed uI64
theorem kStr : Maps.Keyed Tryz.prog 9 := Maps.string_keyed uStr
theorem infoEl : (Tryz.prog.info? 3).map (fun i => (i.zero, i.size, i.bytes)) = some (some (.int .i64 0), 1, 8) := by kernel_rfl
theorem zEl (w : World) : (zeroValue 3).run Tryz.prog w = .ok (.int .i64 0) w := by
 obtain ⟨i0, h1, h2, h3, h4⟩ := info_parts infoEl
 simp [zeroValue, typeInfo, h1, h2, Result.andThen, go_sem]
def elO (o : Option Int) : Int := o.getD 0
theorem wf64 {a : Int} (h : -9223372036854775808 ≤ a ∧ a ≤ 9223372036854775807) : (Lit.int .i64 a).wf = true := by
 simp [Lit.wf]
 have e : IntKind.i64.min = -9223372036854775808 := rfl
 have e2 : IntKind.i64.max = 9223372036854775807 := rfl
 first | (rw [e, e2]; exact h) | (rw [e]; exact h) | exact h
def MapI (w : World) (b n : Nat) (F : Int → Option Int) : Prop :=
 ∃ D : DL, w.ownsMap Tryz.prog 2 elR b n D ∧ ∀ (key : Int) (z : DL), D.atKey (.int .i64 key) z = match F key with | some p => .lit (.int .i64 p) | none => z
def MapS (w : World) (b n : Nat) (F : List UInt8 → Option Int) : Prop :=
 ∃ D : DL, w.ownsMap Tryz.prog 9 elR b n D ∧ ∀ (key : List UInt8) (z : DL), D.atKey (.string key) z = match F key with | some p => .lit (.int .i64 p) | none => z
def setG {α : Type} [DecidableEq α] (F : α → Option Int) (k : α) (p : Int) : α → Option Int := fun x => if x = k then some p else F x
theorem MapI.of_heap {w w' : World} {b n : Nat} {F : Int → Option Int} (h : MapI w b n F) (e : w'.heap[b]? = w.heap[b]?) : MapI w' b n F := by
 obtain ⟨D, ⟨es, clock, hb, r⟩, hat⟩ := h
 exact ⟨D, ⟨es, clock, e.trans hb, r⟩, hat⟩
theorem MapS.of_heap {w w' : World} {b n : Nat} {F : List UInt8 → Option Int} (h : MapS w b n F) (e : w'.heap[b]? = w.heap[b]?) : MapS w' b n F := by
 obtain ⟨D, ⟨es, clock, hb, r⟩, hat⟩ := h
 exact ⟨D, ⟨es, clock, e.trans hb, r⟩, hat⟩
theorem MapI.lt {w : World} {b n : Nat} {F : Int → Option Int} (h : MapI w b n F) : b < w.heap.size := by
 obtain ⟨D, h, _⟩ := h
 exact h.lt
theorem MapS.lt {w : World} {b n : Nat} {F : List UInt8 → Option Int} (h : MapS w b n F) : b < w.heap.size := by
 obtain ⟨D, h, _⟩ := h
 exact h.lt
theorem MapI.ext {w w' : World} {b n : Nat} {F : Int → Option Int} (h : MapI w b n F) (hb : Below w.heap.size w w') : MapI w' b n F := h.of_heap (hb.block b h.lt)
theorem MapS.ext {w w' : World} {b n : Nat} {F : List UInt8 → Option Int} (h : MapS w b n F) (hb : Below w.heap.size w w') : MapS w' b n F := h.of_heap (hb.block b h.lt)
theorem MapI.made (w : World) : MapI (w.alloc (.map #[] 0)) w.heap.size 0 (fun _ => none) :=
 ⟨.map [], World.ownsMap_made w _ _ _, fun key z => rfl⟩
theorem MapS.made (w : World) : MapS (w.alloc (.map #[] 0)) w.heap.size 0 (fun _ => none) :=
 ⟨.map [], World.ownsMap_made w _ _ _, fun key z => rfl⟩
theorem MapI.look {w : World} {b n : Nat} {F : Int → Option Int} (h : MapI w b n F) (c : Bool) {k : Int} (hk : -9223372036854775808 ≤ k ∧ k ≤ 9223372036854775807) :
  (Instr.lookup 114 (.map (some b)) (.int .i64 k) c).run Tryz.prog w = .ok (if c then .tuple #[.int .i64 (elO (F k)), .bool (F k).isSome] else .int .i64 (elO (F k))) w := by
 obtain ⟨D, ⟨es, clock, hb, Ft, hn, rfl⟩, hat⟩ := h
 have hkey := Maps.keyOf_int_mk uI64 (wf64 hk)
 rcases Maps.fit_look c kI64 uMapI (zEl w) hb Ft hkey with ⟨hrun, _, h2⟩ | ⟨e0, y, _, _, hrun, hR, h2, _⟩
 ·have h3 := hat k .nil
  rw [h2] at h3
  rw [hrun]
  cases hF : F k with
  | none => rfl
  | some p => rw [hF] at h3; cases h3
 obtain ⟨x, e1, e2⟩ := elR_inv hR
 rw [hrun, e1]
 have h3 := hat k .nil
 rw [h2, e2] at h3
 cases hF : F k with
 | none => rw [hF] at h3; cases h3
 | some p =>
  rw [hF] at h3
  cases h3
  rfl
theorem MapS.look {w : World} {b n : Nat} {F : List UInt8 → Option Int} (h : MapS w b n F) (c : Bool) {s : ByteArray} (hs : s.size ≤ maxLen) :
  (Instr.lookup 90 (.map (some b)) (.string s) c).run Tryz.prog w = .ok (if c then .tuple #[.int .i64 (elO (F s.data.toList)), .bool (F s.data.toList).isSome] else .int .i64 (elO (F s.data.toList))) w := by
 obtain ⟨D, ⟨es, clock, hb, Ft, hn, rfl⟩, hat⟩ := h
 have hkey := WideMaps.keyOf_string_mk uStr hs
 rcases Maps.fit_look c kStr uMapS (zEl w) hb Ft hkey with ⟨hrun, _, h2⟩ | ⟨e0, y, _, _, hrun, hR, h2, _⟩
 ·have h3 := hat s.data.toList .nil
  rw [h2] at h3
  rw [hrun]
  cases hF : F s.data.toList with
  | none => rfl
  | some p => rw [hF] at h3; cases h3
 obtain ⟨x, e1, e2⟩ := elR_inv hR
 rw [hrun, e1]
 have h3 := hat s.data.toList .nil
 rw [h2, e2] at h3
 cases hF : F s.data.toList with
 | none => rw [hF] at h3; cases h3
 | some p =>
  rw [hF] at h3
  cases h3
  rfl
theorem MapI.put_at {D : DL} {F : Int → Option Int} (hD : Maps.IsMap D) (hat : ∀ (key : Int) (z : DL), D.atKey (.int .i64 key) z = match F key with | some p => .lit (.int .i64 p) | none => z) (k a : Int) :
  ∀ (key : Int) (z : DL), (D.put (.int .i64 k) (.lit (.int .i64 a))).atKey (.int .i64 key) z = match setG F k a key with | some p => .lit (.int .i64 p) | none => z := by
 intro key z
 unfold setG
 by_cases h : key = k
 ·subst h
  rw [if_pos rfl, Maps.atKey_put_same hD (by simp [WideAt.IsKeyLit])]
 rw [if_neg h, Maps.atKey_put_other (by simpa using h), hat]
theorem MapS.put_at {D : DL} {F : List UInt8 → Option Int} (hD : Maps.IsMap D) (hat : ∀ (key : List UInt8) (z : DL), D.atKey (.string key) z = match F key with | some p => .lit (.int .i64 p) | none => z) (k : List UInt8) (a : Int) :
  ∀ (key : List UInt8) (z : DL), (D.put (.string k) (.lit (.int .i64 a))).atKey (.string key) z = match setG F k a key with | some p => .lit (.int .i64 p) | none => z := by
 intro key z
 unfold setG
 by_cases h : key = k
 ·subst h
  rw [if_pos rfl, Maps.atKey_put_same hD (by simp [WideAt.IsKeyLit])]
 rw [if_neg h, Maps.atKey_put_other (by simpa using h), hat]
theorem wpList_putI {w : World} {ops : Array Oper} {rest : List Oper} {o : Oper} {a : Act} {Q : Exit → Act → World → Prop}
  (hg : o.guard = none) (m x v : Operand) (hop : o.op = Op.mapUpdate 114 m x v) {b n : Nat} {F : Int → Option Int}
  (hm : a.eval m = .map (some b)) (h : MapI w b n F) (hn : n < maxLen) (k : Int) (hk : -9223372036854775808 ≤ k ∧ k ≤ 9223372036854775807) (p : Int) (hx : a.eval x = .int .i64 k) (hv : a.eval v = .int .i64 p)
  (hK : ∀ w', MapI w' b (n + 1) (setG F k p) → w.grownBy w' (some b) → wpList Tryz.prog ops Q rest (a.put o.dst undef) w') :
  wpList Tryz.prog ops Q (o :: rest) a w := by
 obtain ⟨D, hD, hat⟩ := h
 exact wpList_mapUpdate_own w hg m x v _ hop 2 3 kI64 uMapI elR b n D hm hD hn (.int .i64 k) (.int .i64 p) (.int .i64 k) hx hv (Maps.keyOf_int_mk uI64 (wf64 hk)) (.lit (.int .i64 p)) [] rfl
  (fun w' h1 h2 => hK w' ⟨_, h1, MapI.put_at hD.isMap hat _ p⟩ h2)
theorem wpList_putS {w : World} {ops : Array Oper} {rest : List Oper} {o : Oper} {a : Act} {Q : Exit → Act → World → Prop}
  (hg : o.guard = none) (m x v : Operand) (hop : o.op = Op.mapUpdate 90 m x v) {b n : Nat} {F : List UInt8 → Option Int}
  (hm : a.eval m = .map (some b)) (h : MapS w b n F) (hn : n < maxLen) (s : ByteArray) (hs : s.size ≤ maxLen) (p : Int) (hx : a.eval x = .string s) (hv : a.eval v = .int .i64 p)
  (hK : ∀ w', MapS w' b (n + 1) (setG F s.data.toList p) → w.grownBy w' (some b) → wpList Tryz.prog ops Q rest (a.put o.dst undef) w') :
  wpList Tryz.prog ops Q (o :: rest) a w := by
 obtain ⟨D, hD, hat⟩ := h
 exact wpList_mapUpdate_own w hg m x v _ hop 9 3 kStr uMapS elR b n D hm hD hn (.string s) (.int .i64 p) (.string s.data.toList) hx hv (WideMaps.keyOf_string_mk uStr hs) (.lit (.int .i64 p)) [] rfl
  (fun w' h1 h2 => hK w' ⟨_, h1, MapS.put_at hD.isMap hat _ p⟩ h2)
end Go.Proofs.YtmopjhbfobmklaaGreatDoor
