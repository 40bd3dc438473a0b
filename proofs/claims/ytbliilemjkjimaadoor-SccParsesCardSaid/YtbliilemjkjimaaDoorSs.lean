/-
  What was read fits and is read again; what is null; the lines: in plain words.
-/
import Derived.Test.YtbliilemjkjimaaDoorSr
namespace Go.Proofs.YtbliilemjkjimaaDoor
set_option linter.unusedSimpArgs false
set_option linter.unusedVariables false
structure Good (r : Rd) : Prop where
  yes : r.begun = true → 0 ≤ r.first ∧ r.first < 2592000
  no : r.begun = false → r.ps = [] ∧ r.first = 0
  len : r.ps.length ≤ 200000
theorem dayV_le (d : Bool) : dayV d ≤ 2592000 := by cases d <;> decide
theorem line_good {r r' : Rd} {s : List UInt8} (h : Good r) (e : lineV r s = .ok r') : Good r' := by
  unfold lineV at e
  split at e
  · cases e
  · split at e
    · cases e
    · rename_i l hl
      have hc : chkL l = 0 := by
        unfold labR at hl
        obtain ⟨l', -, h2⟩ := Option.bind_eq_some_iff.1 hl
        split at h2
        · cases h2; assumption
        · cases h2
      have hr := frmV_range hc
      have hd := dayV_le l.d
      split at e
      · cases e
      · split at e
        · cases e
        · rename_i p hp
          dsimp only at e
          have hF : 0 ≤ (if r.begun = true then r.first else frmV l) ∧ (if r.begun = true then r.first else frmV l) < 2592000 := by
            split
            · exact h.yes ‹_›
            · exact ⟨hr.1, by omega⟩
          generalize (if r.begun = true then r.first else frmV l) = F at e hF
          split at e
          · cases e
          · split at e
            · cases e
            · rename_i h1 h2
              cases e
              refine ⟨fun _ => ?_, fun h => (by cases h), ?_⟩
              · exact hF
              · dsimp only
                simp only [List.length_append, nuls, List.length_replicate]
                omega
theorem lines_good : ∀ (t : List (List UInt8)) {n : Int} {r r' : Rd}, Good r → linesV n r t = .ok r' → Good r'
  | [], n, r, r', h, e => by cases e; exact h
  | s :: t, n, r, r', h, e => by
    rw [linesV] at e
    split at e
    · exact lines_good t h e
    · split at e
      · cases e
      · rename_i r2 h2
        exact lines_good t (line_good h h2) e
theorem trim_le (l : List Pr) : (trim l).length ≤ l.length := (trim_nuls l).2
theorem lead_mid_le (l : List Pr) : lead l + (mid l).length ≤ l.length := by
  have h1 := congrArg List.length (lead_split l)
  have h2 := trim_le (l.dropWhile isN)
  simp only [List.length_append, nuls, List.length_replicate] at h1
  unfold mid
  omega
structure Fits (f : Int) (l : List Pr) : Prop where
  mid : mid l = l
  zero : l = [] → f = 0
  low : 0 ≤ f
  high : f + l.length ≤ 2792000
  len : l.length ≤ 200000
theorem good_norm {r : Rd} (h : Good r) : Fits (normV r.first r.ps).1 (normV r.first r.ps).2 := by
  have hl := lead_mid_le r.ps
  have h3 := h.len
  unfold normV
  split
  · exact ⟨rfl, fun _ => rfl, Int.le_refl _, by decide, by simp⟩
  · rename_i hm
    have hb : 0 ≤ r.first ∧ r.first < 2592000 := by
      cases hb : r.begun
      · rw [(h.no hb).2]; decide
      · exact h.yes hb
    exact ⟨mid_mid _, fun h => absurd h hm, by dsimp only; omega, by dsimp only; omega, by dsimp only; omega⟩
theorem parse_fits {s : List UInt8} {f : Int} {l : List Pr} (h : parseV s = .ok (f, l)) : Fits f l := by
  unfold parseV parseW at h
  split at h
  · cases h
  · split at h
    · cases h
    · rename_i t _ _
      cases e : linesV 2 rd0 t with
      | error x => rw [e] at h; cases h
      | ok r =>
        rw [e] at h
        have hg := good_norm (lines_good t (r := rd0) ⟨fun h => (by cases h), fun _ => ⟨rfl, rfl⟩, by simp [rd0]⟩ e)
        have h2 : normV r.first r.ps = (f, l) := by simpa [Except.map] using h
        rw [h2] at hg
        exact hg
theorem prs_len : ∀ (l : List UInt8), (prs l).length = l.length / 2
  | [] => rfl
  | [_] => by simp [prs]
  | _ :: _ :: r => by simp [prs, prs_len r]; omega
/-- A stream that fits is as it was behind Norm. -/
theorem norm_fits {f : Int} {l : List Pr} (h : Fits f l) : normV f l = (f, l) := by
  unfold normV
  rw [h.mid]
  split
  · rename_i h2; rw [h.zero h2, h2]
  · have : lead l = 0 := by rw [← h.mid]; exact lead_mid l
    rw [this]; simp
theorem chk_fits {f : Int} {l : List Pr} (h : Fits f l) : chkS f (flat l).length = 0 := by
  have h1 := h.low
  have h2 := h.high
  have h3 := h.len
  rw [flat_len, chkS, if_neg (by omega), if_neg (by omega), if_neg (by omega)]
theorem norm_is_fits {f : Int} {l : List Pr} (h1 : 0 ≤ f) (h2 : f + l.length ≤ 2792000) (h3 : l.length ≤ 200000) : Fits (normV f l).1 (normV f l).2 := by
  have hl := lead_mid_le l
  unfold normV
  split
  · exact ⟨rfl, fun _ => rfl, Int.le_refl _, by decide, by simp⟩
  · rename_i hm
    exact ⟨mid_mid _, fun h => absurd h hm, by dsimp only; omega, by dsimp only; omega, by dsimp only; omega⟩
/-- SccAgain, plain. -/
theorem again {s : List UInt8} {f : Int} {l : List Pr} (h : parseV s = .ok (f, l)) (d : Bool) :
    chkS f (flat l).length = 0 ∧ ((printV f (flat l) d).2 = 2 ∨ ((printV f (flat l) d).2 = 0 ∧ parseV (printV f (flat l) d).1 = .ok (f, l))) := by
  have hf := parse_fits h
  refine ⟨chk_fits hf, ?_⟩
  unfold printV
  rw [if_neg (by simp [chk_fits hf]), prs_flat, norm_fits hf]
  unfold printN
  split
  · exact .inl rfl
  · rename_i hl
    exact .inr ⟨rfl, read_back hf.low hf.mid hf.zero hl hf.len⟩
/-- SccBack, plain. -/
theorem back {f : Int} {s : List UInt8} {d : Bool} (h : (printV f s d).2 = 0) : parseV (printV f s d).1 = .ok (normV f (prs s)) := by
  unfold printV at *
  split at h
  · rename_i h2; exact absurd h h2
  · rename_i h2
    rw [if_neg h2]
    have h2 : chkS f s.length = 0 := by simpa using h2
    unfold printN at *
    split at h
    · cases h
    · rename_i hl
      rw [if_neg hl]
      unfold chkS at h2
      split at h2
      · cases h2
      · split at h2
        · cases h2
        · split at h2
          · cases h2
          · rename_i g1 g2 g3
            have hp := prs_len s
            have hlm := lead_mid_le (prs s)
            have hlow : 0 ≤ (normV f (prs s)).1 := by unfold normV; split <;> dsimp only <;> omega
            refine read_back hlow ?_ ?_ hl ?_
            · unfold normV; split
              · rfl
              · exact mid_mid _
            · unfold normV; split
              · exact fun _ => rfl
              · rename_i hm; exact fun h => absurd h hm
            · unfold normV; split <;> dsimp only
              · simp
              · omega
/-- SccNulls, plain: what lies outside of the normal form is null, and what lies in it is the same. -/
theorem prs_get (l : List Pr) (i : Nat) (hi : i < l.length) :
    (mid l = [] → l[i]? = some (128, 128)) ∧ (mid l ≠ [] → (i < lead l ∨ lead l + (mid l).length ≤ i → l[i]? = some (128, 128)) ∧ ∀ j, i = lead l + j → j < (mid l).length → (mid l)[j]? = l[i]?) := by
  have e1 := lead_split l
  have e2 := (trim_nuls (l.dropWhile isN)).1
  rw [← mid] at e2
  generalize hk : (l.dropWhile isN).length - (mid l).length = k at e2
  rw [e2] at e1
  have hlen := congrArg List.length e1
  simp only [List.length_append, nuls, List.length_replicate] at hlen
  have hn : ∀ (n m : Nat), m < n → (nuls n)[m]? = some (128, 128) := fun n m h => by simp [nuls, h]
  have hnl : ∀ n, (nuls n).length = n := fun n => by simp [nuls]
  refine ⟨fun h0 => ?_, fun h0 => ⟨fun h => ?_, fun j hj h => ?_⟩⟩
  · rw [h0, List.nil_append] at e1
    rw [h0, List.length_nil] at hlen
    rw [e1]
    by_cases h : i < lead l
    · rw [List.getElem?_append_left (by rw [hnl]; exact h)]; exact hn _ _ h
    · rw [List.getElem?_append_right (by rw [hnl]; omega), hnl]; exact hn _ _ (by omega)
  · generalize hm : mid l = M at *
    rw [e1]
    rcases h with h | h
    · rw [List.getElem?_append_left (by rw [hnl]; exact h)]; exact hn _ _ h
    · rw [List.getElem?_append_right (by rw [hnl]; omega), hnl, List.getElem?_append_right (by omega)]; exact hn _ _ (by omega)
  · generalize hm : mid l = M at *
    conv => rhs; rw [e1]
    rw [hj, List.getElem?_append_right (by rw [hnl]; omega), hnl, List.getElem?_append_left (by omega)]
    congr 1
    omega
/-- SccLines, plain. -/
def runsV : Bool → List Pr → Nat
  | _, [] => 0
  | b, p :: r => (if b = true ∧ isN p = false then 1 else 0) + runsV (isN p) r
theorem cnt_no {c : UInt8} {l : List UInt8} (h : c ∉ l) : l.count c = 0 := List.count_eq_zero.2 h
theorem out_count {d : Bool} {f : Int} (hf : 0 ≤ f) : ∀ (l : List Pr) (w : Bool) (i : Int), 0 ≤ i → (l ≠ [] → f + i + l.length - 1 < dayV d) → (outP (labT d f) w i l).count 10 = runsV (!w) l
  | [], w, i, _, _ => rfl
  | p :: r, w, i, hi, hd => by
    have hd := hd (by simp)
    simp only [List.length_cons] at hd
    by_cases h : isN p = true
    · rw [outP, if_pos h, out_count hf r false (i + 1) (by omega) (fun _ => by omega)]
      simp [runsV, h]
    · rw [outP, if_neg h]
      have hp : (10 : UInt8) ∉ pr1 p := by rw [← prsT_one]; exact prsT_no _
      have hl : (10 : UInt8) ∉ labT d f i := (txtL_no (labV_ok (by omega) (by omega)).1).1
      rw [List.count_append, List.count_append, cnt_no hp, out_count hf r true (i + 1) (by omega) (fun _ => by omega)]
      have h : isN p = false := by simpa using h
      cases w
      · simp [runsV, h, cnt_no hl]
      · simp [runsV, h]
theorem runs_nuls : ∀ (n : Nat) (b : Bool), runsV b (nuls n) = 0
  | 0, b => rfl
  | n + 1, b => by
    show runsV b ((128, 128) :: nuls n) = 0
    rw [runsV, runs_nuls n, show isN (128, 128) = true from by decide]; simp
theorem runs_app_nuls : ∀ (l : List Pr) (n : Nat) (b : Bool), runsV b (l ++ nuls n) = runsV b l
  | [], n, b => runs_nuls n b
  | p :: r, n, b => by rw [List.cons_append, runsV, runsV, runs_app_nuls r]
theorem runs_lead : ∀ (n : Nat) (l : List Pr), runsV true (nuls n ++ l) = runsV true l
  | 0, l => rfl
  | n + 1, l => by
    show runsV true ((128, 128) :: (nuls n ++ l)) = _
    rw [runsV, show isN (128, 128) = true from by decide, runs_lead n l]; simp
theorem runs_mid (l : List Pr) : runsV true (mid l) = runsV true l := by
  conv => rhs; rw [lead_split l, runs_lead, (trim_nuls (l.dropWhile isN)).1, runs_app_nuls]
  rfl
theorem no59 {l : Lab} (h : chkL l = 0) (hd : l.d = false) : (59 : UInt8) ∉ txtL l := by
  obtain ⟨h1, h2, h3, h4, h5, h6, h7, h8⟩ := chkL_zero h
  have two59 : ∀ {n : Int}, 0 ≤ n → n < 100 → (59 : UInt8) ∉ two2 n := fun {n} h1 h2 h => by
    have e1 := dig_byte (k := (n / 10).toNat) (by omega)
    have e2 := dig_byte (k := (n % 10).toNat) (by omega)
    simp only [two2, List.mem_cons, List.not_mem_nil, or_false] at h
    rcases h with h | h
    · rw [← h] at e1; simp at e1; omega
    · rw [← h] at e2; simp at e2; omega
  simp only [txtL, hd, List.mem_append, not_or]
  exact ⟨⟨⟨⟨⟨⟨two59 h1 (by omega), by decide⟩, two59 h3 (by omega)⟩, by decide⟩, two59 h5 (by omega)⟩, by decide⟩, two59 h7 (by omega)⟩
theorem hx59 {n : Nat} (h : n < 16) : hx n ≠ 59 := by
  have : ∀ n : Fin 16, hx n.val ≠ 59 := by decide
  exact this ⟨n, h⟩
theorem pr59 (p : Pr) : (59 : UInt8) ∉ pr1 p := by
  have h1 : p.1.toNat < 256 := p.1.toNat_lt
  have h2 : p.2.toNat < 256 := p.2.toNat_lt
  simp only [pr1, hex2, List.cons_append, List.nil_append, List.mem_cons, List.not_mem_nil, or_false, not_or]
  exact ⟨by decide, (hx59 (by omega)).symm, (hx59 (by omega)).symm, (hx59 (by omega)).symm, (hx59 (by omega)).symm⟩
theorem out_no59 {f : Int} (hf : 0 ≤ f) : ∀ (l : List Pr) (w : Bool) (i : Int), 0 ≤ i → (l ≠ [] → f + i + l.length - 1 < dayV false) → (59 : UInt8) ∉ outP (labT false f) w i l
  | [], w, i, _, _ => by simp [outP]
  | p :: r, w, i, hi, hd => by
    have hd := hd (by simp)
    simp only [List.length_cons] at hd
    by_cases h : isN p = true
    · rw [outP, if_pos h]
      exact out_no59 hf r false (i + 1) (by omega) (fun _ => by omega)
    · rw [outP, if_neg h]
      have hl : (59 : UInt8) ∉ labT false f i := no59 (labV_ok (by omega) (by omega)).1 rfl
      have hr := out_no59 hf r true (i + 1) (by omega) (fun _ => by omega)
      simp only [List.mem_append, not_or]
      refine ⟨?_, pr59 p, hr⟩
      cases w
      · simp [hl]
      · simp
theorem lines {f : Int} {s : List UInt8} {d : Bool} (h : (printV f s d).2 = 0) :
    ∃ o, (printV f s d).1 = headL ++ (o ++ [10]) ∧ (headL ++ (o ++ [10])).count 10 = runsV true (prs s) + 1 ∧ (∃ u, headL ++ (o ++ [10]) = (headL ++ [10]) ++ u) ∧ (d = false → (59 : UInt8) ∉ headL ++ (o ++ [10])) := by
  unfold printV at *
  split at h
  · rename_i h2; exact absurd h h2
  · rename_i h2
    rw [if_neg h2]
    have h2 : chkS f s.length = 0 := by simpa using h2
    unfold printN at *
    split at h
    · cases h
    · rename_i hl
      rw [if_neg hl]
      have hlow : 0 ≤ (normV f (prs s)).1 := by
        unfold chkS at h2
        split at h2
        · cases h2
        · split at h2
          · cases h2
          · split at h2
            · cases h2
            · unfold normV; split <;> dsimp only <;> omega
      have hday : (normV f (prs s)).2 ≠ [] → (normV f (prs s)).1 + 0 + ((normV f (prs s)).2.length : Int) - 1 < dayV d := fun h => by
        have : ¬ (dayV d ≤ (normV f (prs s)).1 + ((normV f (prs s)).2.length : Int) - 1) := fun x => hl ⟨h, x⟩
        omega
      have em : (normV f (prs s)).2 = mid (prs s) := by
        unfold normV; split
        · rename_i h; exact h.symm
        · rfl
      refine ⟨_, rfl, ?_, ?_, fun e => ?_⟩
      · rw [List.count_append, List.count_append, out_count hlow _ _ _ (Int.le_refl _) hday, em, Bool.not_false, runs_mid, show headL.count 10 = 0 from by decide, show [(10 : UInt8)].count 10 = 1 from by decide]
        omega
      · rw [show headL ++ (outP (labT d (normV f (prs s)).1) false 0 (normV f (prs s)).2 ++ [10]) = textP (normV f (prs s)).1 (normV f (prs s)).2 d from rfl, text_same]
        exact ⟨_, rfl⟩
      · subst e
        simp only [List.mem_append, not_or]
        exact ⟨by decide, out_no59 hlow _ _ _ (Int.le_refl _) hday, by decide⟩
end Go.Proofs.YtbliilemjkjimaaDoor
