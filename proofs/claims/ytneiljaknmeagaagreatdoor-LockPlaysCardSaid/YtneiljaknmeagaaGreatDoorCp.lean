/-
  copy between rows whose elements are structs: as a law of the walk and as a step of a region. Without conditions.
-/
import Derived.Test.YtneiljaknmeagaaGreatDoorBb
import Derived.Laws.CopyOwn
namespace Go.Proofs.YtneiljaknmeagaaGreatDoor
open Go.RowKit Go.Joins
set_option linter.unusedVariables false
set_option linter.unusedSimpArgs false
theorem run_copyK {P : Program} (w : World) (dT sT ty elem : TypeId) (m n : Nat) (g o dLen dCap : Nat) (a : Addr) (sLen sCap : Nat) (cur : List Value) (t : TypeId) (cs : List Value)
    (hu : P.underlying dT = some (.slice elem)) (hs : (P.info? elem).map (·.size) = some m)
    (hg : w.heap[g]? = some (.cells cur.toArray t (0, 0))) (hmin : Nat.min sLen dLen = n) (hn : cs.length = n * m)
    (hsrc : ∀ j v, cs[j]? = some v → w.cell? (a.add j) = some v) (hfit : o + cs.length ≤ cur.length) (h1 : ∀ v ∈ cs, v.oneCell' = true) :
    (Builtin.copy_ #[dT, sT] ty #[.slice (some ⟨g, o, none⟩) dLen dCap, .slice (some a) sLen sCap]).run P w =
      .ok (goInt n) (w.setRow g (splice cur o cs).toArray) := by
  have hl := run_loadCells_list (P := P) w a cs hsrc
  have hst := run_storeCells_at P g o t cs 0 cur.toArray w hg (by simpa using hfit) h1
  cases hq : P.info? elem with
  | none => simp [hq] at hs
  | some i =>
    have hi : i.size = m := by simpa [hq] using hs
    simp [Builtin.copy_, run_underlying hu, Builtin.lenOf, Builtin.firstCells, sizeOf, typeInfo, hq, hi, hmin, ← hn, hl, hst, splice]
theorem wpList_copyK {P : Program} {w : World} {ops : Array Oper} {rest : List Oper} {o : Oper} {a : Act} {Q : Exit → Act → World → Prop} (hgd : o.guard = none) (d s : Operand) (dT sT : TypeId)
    (ho : o.op = .call { callee := .builtin .copy, args := #[d, s], argTypes := #[dT, sT] }) {v u v' : Value} {w' : World} (hd : a.eval d = v) (hs : a.eval s = u)
    (hr : (Builtin.copy_ #[dT, sT] o.type #[v, u]).run P w = .ok v' w') (h : wpList P ops Q rest (a.put o.dst v') w') : wpList P ops Q (o :: rest) a w := by
  refine wpList_plain hgd fun K hK => ?_
  unfold Oper.wp
  simp [execOp, ho, resolve, invoke, builtin, hd, hs, hr, Result.andThen]
  exact hK _ _ h
theorem step_copyK {P : Program} {ops : Array Oper} {o : Oper} {a : Act} {w : World} {K : Act → World → Prop} {Q : Exit → Act → World → Prop} {E : Prop} (hgd : o.guard = none) (d s : Operand) (dT sT : TypeId)
    (ho : o.op = .call { callee := .builtin .copy, args := #[d, s], argTypes := #[dT, sT] }) {v u v' : Value} {w' : World} (hd : a.eval d = v) (hs : a.eval s = u)
    (hr : (Builtin.copy_ #[dT, sT] o.type #[v, u]).run P w = .ok v' w') (h : K (a.put o.dst v') w') : if Region.wanted o (yielded ops a.tmps) = true then Oper.wp P o a w K Q else E := by
  have hw : Region.wanted o (yielded ops a.tmps) = true := by simp [Region.wanted, hgd]
  rw [if_pos hw]
  unfold Oper.wp
  simp [execOp, ho, resolve, invoke, builtin, hd, hs, hr, Result.andThen]
  exact h
theorem step_appK {P : Program} {ops : Array Oper} {o : Oper} {a : Act} {w : World} {K : Act → World → Prop} {Q : Exit → Act → World → Prop} {E : Prop} (hgd : o.guard = none) (d s : Operand) (dT sT : TypeId)
    (ho : o.op = .call { callee := .builtin .append, args := #[d, s], argTypes := #[dT, sT] }) {v u v' : Value} {w' : World} (hd : a.eval d = v) (hs : a.eval s = u)
    (hr : (Builtin.append_ #[dT, sT] o.type #[v, u]).run P w = .ok v' w') (h : K (a.put o.dst v') w') : if Region.wanted o (yielded ops a.tmps) = true then Oper.wp P o a w K Q else E := by
  have hw : Region.wanted o (yielded ops a.tmps) = true := by simp [Region.wanted, hgd]
  rw [if_pos hw]
  unfold Oper.wp
  simp [execOp, ho, resolve, invoke, builtin, hd, hs, hr, Result.andThen]
  exact h
theorem splice_shift {α : Type} (cur X C : List α) (a : Nat) (h : a + X.length + C.length ≤ cur.length) :
    splice (splice cur (a + X.length) C) a X = cur.take a ++ (X ++ (C ++ cur.drop (a + X.length + C.length))) := by
  unfold splice
  have e1 : (List.take (a + X.length) cur ++ (C ++ List.drop (a + X.length + C.length) cur)).take a = cur.take a := by
    rw [List.take_append_of_le_length (by simp; omega), List.take_take]
    congr 1
    omega
  have e2 : (List.take (a + X.length) cur ++ (C ++ List.drop (a + X.length + C.length) cur)).drop (a + X.length) = C ++ List.drop (a + X.length + C.length) cur := by
    rw [List.drop_append_of_le_length (by simp; omega), List.drop_of_length_le (by simp; omega), List.nil_append]
  rw [e1, e2]
theorem splice_grow {α : Type} (cur X C : List α) (a : Nat) (h : a + X.length + C.length ≤ cur.length) :
    splice (splice cur a X) (a + X.length) C = cur.take a ++ (X ++ (C ++ cur.drop (a + X.length + C.length))) := by
  unfold splice
  have hl : (List.take a cur).length = a := by simp; omega
  have e1 : (List.take a cur ++ (X ++ List.drop (a + X.length) cur)).take (a + X.length) = List.take a cur ++ X := by
    rw [← List.append_assoc, List.take_append_of_le_length (by simp; omega), List.take_of_length_le (by simp; omega)]
  have e2 : (List.take a cur ++ (X ++ List.drop (a + X.length) cur)).drop (a + X.length + C.length) = cur.drop (a + X.length + C.length) := by
    rw [← List.append_assoc, List.drop_append, List.drop_of_length_le (by simp; omega), List.nil_append, List.drop_drop]
    congr 1
    simp
    omega
  rw [e1, e2, List.append_assoc]
theorem splice_step {α : Type} (cur : List α) (o : Nat) (v : α) (r : List α) (h : o < cur.length) : splice (cur.set o v) (o + 1) r = splice cur o (v :: r) := by
  unfold splice
  have e1 : (cur.set o v).take (o + 1) = cur.take o ++ [v] := by
    rw [List.take_add_one, List.getElem?_set_self h, List.take_set_of_le (Nat.le_refl _)]
    rfl
  have e2 : (cur.set o v).drop (o + 1 + r.length) = cur.drop (o + (v :: r).length) := by
    rw [List.drop_set_of_lt (by omega)]
    congr 1
    simp
    omega
  rw [e1, e2]
  simp
theorem setCells_row {g : Nat} {t : TypeId} : ∀ (vs : List Value) (o : Nat) (cur : List Value) (w : World), w.heap[g]? = some (.cells cur.toArray t (0, 0)) → o + vs.length ≤ cur.length → w.setCells g o vs = w.setRow g (splice cur o vs).toArray
  | [], o, cur, w, hg, _ => by
    have : splice cur o [] = cur := by simp [splice]
    rw [this, setRow_self w g cur.toArray t (0, 0) hg]
    rfl
  | v :: r, o, cur, w, hg, h => by
    have hlt : o < cur.length := by simp at h; omega
    rw [World.setCells, setCell_eq_setRow w g o cur.toArray t (0, 0) v hg, setCells_row r (o + 1) (cur.set o v) _ (by
      have := setRow_heap w g cur.toArray (cur.toArray.setIfInBounds o v) t (0, 0) hg
      simpa using this) (by simp at h ⊢; omega), setRow_setRow, splice_step cur o v r hlt]
theorem run_append_roomK {P : Program} (w : World) (t ty e : TypeId) (i : TypeInfo) (size : Nat) (h1 : P.underlying t = some (.slice e)) (h2 : P.info? e = some i) (h4 : i.size = size)
    (g n cap : Nat) (ad : Addr) (m c : Nat) (news cur : List Value) (t' : TypeId) (hg : w.heap[g]? = some (.cells cur.toArray t' (0, 0))) (hn : news.length = m * size) (hc : ∀ j u, news[j]? = some u → w.cell? (ad.add j) = some u) (h1c : ∀ u ∈ news, u.oneCell' = true)
    (hroom : n + m ≤ cap) (hfit : n * size + news.length ≤ cur.length) :
    (Builtin.append_ #[t, t] ty #[.slice (some ⟨g, 0, none⟩) n cap, .slice (some ad) m c]).run P w = .ok (.slice (some ⟨g, 0, none⟩) (n + m) cap) (w.setRow g (splice cur (n * size) news).toArray) := by
  subst h4
  have hrun := run_append_room_cells (P := P) w t ty e i h1 h2 g 0 n cap ad m c news hn hc h1c hroom (fun j hj => by
      rw [cell_of_block hg, Nat.zero_add, List.getElem?_toArray, List.getElem?_eq_getElem (by omega)]; rfl) (fun j hj => by simp [World.frozen?, hg])
  rw [hrun, Nat.zero_add, setCells_row news (n * i.size) cur w hg hfit]
theorem run_clearK {P : Program} (w : World) (t e ty : TypeId) (z : Value) (m : Nat) (ht : P.underlying t = some (.slice e)) (hv : ∀ w, (zeroValue e).run P w = .ok z w) (hz : z.cells.size = m) (h1 : ∀ u ∈ z.cells.toList, u.oneCell' = true)
    (g o c : Nat) (cur : List Value) (t' : TypeId) (hg : w.heap[g]? = some (.cells cur.toArray t' (0, 0))) (hfit : o + m ≤ cur.length) :
    (Builtin.clear_ #[t] ty #[.slice (some ⟨g, o, none⟩) 1 c]).run P w = .ok (.tuple #[]) (w.setRow g (splice cur o z.cells.toList).toArray) := by
  have hzc : (Builtin.zeroCells z.cells 1).toList = z.cells.toList := by
    apply List.ext_getElem
    · simp [Builtin.zeroCells]
    · intro i h1 h2
      have h3 : i < z.cells.size := by simpa using h2
      simp [Builtin.zeroCells, Nat.mod_eq_of_lt h3, h3]
  have hst := run_storeCells_at P g o t' z.cells.toList 0 cur.toArray w hg (by simp [hz]; omega) h1
  simp [Builtin.clear_, run_underlying ht, hv, hzc, hst, splice]
end Go.Proofs.YtneiljaknmeagaaGreatDoor
