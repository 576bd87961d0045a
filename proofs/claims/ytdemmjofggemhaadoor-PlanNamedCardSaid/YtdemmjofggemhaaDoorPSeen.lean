/- A list turned from its front on; a query's names as they are gathered. No program in sight. -/
import Derived.Test.YtdemmjofggemhaaDoorPName
import Derived.Test.YtdemmjofggemhaaDoorQCopy
namespace Go.Proofs.YtdemmjofggemhaaDoor
open Go.RowKit

section
variable {α : Type} (f : α → α)
def mapTo (L : List α) (k : Nat) : List α := (L.take k).map f ++ L.drop k
theorem mapTo_zero (L : List α) : mapTo f L 0 = L := by simp [mapTo]
theorem mapTo_all (L : List α) : mapTo f L L.length = L.map f := by simp [mapTo]
@[simp] theorem mapTo_length (L : List α) (k : Nat) : (mapTo f L k).length = L.length := by simp [mapTo]; omega
theorem mapTo_set {L : List α} {k : Nat} (h : k < L.length) : (mapTo f L k).set k (f L[k]) = mapTo f L (k + 1) := by
  apply List.ext_getElem?
  intro i
  unfold mapTo
  rw [List.getElem?_set]
  by_cases c : k = i
  · subst c
    rw [if_pos rfl, if_pos (by simp; omega), List.getElem?_append_left (by simp; omega)]
    simp [h]
  · rw [if_neg c]
    rcases Nat.lt_or_ge i k with d | d
    · rw [List.getElem?_append_left (by simp; omega), List.getElem?_append_left (by simp; omega)]
      simp [d, show i < k + 1 by omega]
    · rw [List.getElem?_append_right (by simp; omega), List.getElem?_append_right (by simp; omega)]
      simp only [List.getElem?_drop, List.length_map, List.length_take]
      congr 1
      omega
theorem mapTo_at? {L : List α} {k : Nat} (h : k < L.length) : (mapTo f L k)[k]? = some L[k] := by
  unfold mapTo
  rw [List.getElem?_append_right (by simp; omega)]
  simp only [List.getElem?_drop, List.length_map, List.length_take]
  rw [show k + (k - min k L.length) = k by omega, List.getElem?_eq_getElem h]
theorem mapTo_keep {L : List α} {k : Nat} (h : k < L.length) (hf : f L[k] = L[k]) : mapTo f L (k + 1) = mapTo f L k := by
  rw [← mapTo_set f h, hf]
  apply List.ext_getElem?
  intro i
  rw [List.getElem?_set]
  by_cases c : k = i
  · subst c
    rw [if_pos rfl, if_pos (by simp; omega)]
    rw [mapTo_at? f h]
  · rw [if_neg c]
end
theorem ss_set (L : List ByteArray) (k : Nat) (x : ByteArray) : (ss L).set k (.string x) = ss (L.set k x) := by
  unfold ss; rw [List.map_set]
theorem tms_set : ∀ (ts : List Tm) (k : Nat) (h : k < ts.length) (x : ByteArray), (tms ts).set (k * 4) (.string x) = tms (ts.set k ⟨x, ts[k].kind, ts[k].num, ts[k].text⟩)
  | t :: ts, 0, _, x => rfl
  | t :: ts, k + 1, h, x => by
    have h1 := tms_set ts k (by simpa using h) x
    unfold tms at h1 ⊢
    simp only [List.set_cons_succ, List.getElem_cons_succ, List.flatMap_cons]
    rw [show (k + 1) * 4 = 4 + k * 4 by omega, List.set_append_right _ _ (by simp [tC])]
    simpa [tC] using h1
/-- Turned terms: the cell that changes. -/
theorem tms_ren {f : ByteArray → ByteArray} {ts : List Tm} {k : Nat} (h : k < ts.length) (hn : ts[k].var ≠ ByteArray.empty) : (tms (mapTo (renT f) ts k)).set (k * 4) (.string (f ts[k].var)) = tms (mapTo (renT f) ts (k + 1)) := by
  have hk : k < (mapTo (renT f) ts k).length := by simpa using h
  have e : (mapTo (renT f) ts k)[k] = ts[k] := by
    have h1 := mapTo_at? (renT f) h
    rw [List.getElem?_eq_getElem hk] at h1
    exact Option.some.inj h1
  rw [tms_set _ _ hk, e, ← mapTo_set (renT f) h]
  congr 2
  unfold renT
  rw [if_neg hn]
theorem ren_same {f : ByteArray → ByteArray} {t : Tm} (h : t.var = ByteArray.empty) : renT f t = t := if_pos h
/-- The names of terms, the empty ones left out. -/
def varsT (ts : List Tm) : List ByteArray := (ts.map Tm.var).filter fun x => !decide (x = ByteArray.empty)
theorem oldL_flat (q : Qy) : oldL q = q.head ++ q.atoms.flatMap fun a => varsT a.terms := by
  unfold oldL varsT
  congr 1
  rw [List.map_flatMap, List.filter_flatMap]
def oldTo (q : Qy) (i j : Nat) : List ByteArray := q.head ++ ((q.atoms.take i).flatMap fun a => varsT a.terms) ++ varsT ((am q.atoms i).terms.take j)
theorem oldTo_zero (q : Qy) : oldTo q 0 0 = q.head := by simp [oldTo, varsT]
theorem oldTo_yes {q : Qy} {i j : Nat} (hj : j < (am q.atoms i).terms.length) (hn : (tm (am q.atoms i).terms j).var ≠ ByteArray.empty) : oldTo q i (j + 1) = oldTo q i j ++ [(tm (am q.atoms i).terms j).var] := by
  unfold oldTo varsT
  rw [List.take_succ_eq_append_getElem hj, List.map_append, List.filter_append, List.append_assoc, List.append_assoc, List.append_assoc]
  congr 2
  congr 1
  rw [tm_eq]
  simp [hn]
theorem oldTo_no {q : Qy} {i j : Nat} (hj : j < (am q.atoms i).terms.length) (hn : (tm (am q.atoms i).terms j).var = ByteArray.empty) : oldTo q i (j + 1) = oldTo q i j := by
  unfold oldTo varsT
  rw [List.take_succ_eq_append_getElem hj, List.map_append, List.filter_append, tm_eq]
  simp [hn]
theorem oldTo_next {q : Qy} {i : Nat} (hi : i < q.atoms.length) : oldTo q i (am q.atoms i).terms.length = oldTo q (i + 1) 0 := by
  unfold oldTo
  rw [List.take_length, List.take_succ_eq_append_getElem hi, List.flatMap_append, am_eq]
  simp [varsT]
theorem oldTo_end (q : Qy) : oldTo q q.atoms.length 0 = oldL q := by
  rw [oldL_flat]; unfold oldTo
  simp [varsT]
theorem varsT_len (ts : List Tm) : (varsT ts).length ≤ ts.length := by
  unfold varsT
  exact Nat.le_trans (List.length_filter_le _ _) (by simp)
theorem flatV_len : ∀ (xs : List Am), (∀ a ∈ xs, a.terms.length ≤ 5) → (xs.flatMap fun a => varsT a.terms).length ≤ xs.length * 5
  | [], _ => by simp
  | a :: xs, h => by
    have h1 := flatV_len xs fun b hb => h b (by simp [hb])
    have h2 := h a (by simp)
    have h3 := varsT_len a.terms
    simp only [List.flatMap_cons, List.length_append, List.length_cons]
    omega
theorem oldTo_few {q : Qy} (h5 : ∀ a ∈ q.atoms, a.terms.length ≤ 5) (h6 : q.atoms.length ≤ 6) {i j : Nat} (hj : j ≤ 5) : (oldTo q i j).length ≤ q.head.length + 35 := by
  have h1 := flatV_len (q.atoms.take i) fun a ha => h5 a (List.mem_of_mem_take ha)
  have h2 := varsT_len ((am q.atoms i).terms.take j)
  unfold oldTo
  simp only [List.length_append, List.length_take] at h1 h2 ⊢
  have h3 : min i q.atoms.length ≤ 6 := by omega
  have h4 : min i q.atoms.length * 5 ≤ 30 := by omega
  omega
def seeTo (L : List ByteArray) (k : Nat) : List ByteArray := seenOf (L.take k)
theorem seeTo_next {L : List ByteArray} {k : Nat} (h : k < L.length) : seeTo L (k + 1) = addS (seeTo L k) (nm L k) := by
  unfold seeTo seenOf
  rw [List.take_succ_eq_append_getElem h, List.foldl_append, nm_eq]; rfl
theorem seenOf_len (L : List ByteArray) : (seenOf L).length ≤ L.length := sub_len (seenOf_nodup L) fun _ hx => mem_seenOf.1 hx
theorem seeTo_len (L : List ByteArray) (k : Nat) : (seeTo L k).length ≤ k := Nat.le_trans (seenOf_len _) (by simp; omega)
theorem seeTo_all (L : List ByteArray) : seeTo L L.length = seenOf L := by unfold seeTo; rw [List.take_length]
/-- The atoms turned as far as the k-th: their cells are the same. -/
theorem atC_ren (f : ByteArray → ByteArray) (xs : List Am) (G : Nat → Nat) : ∀ n, n ≤ xs.length → atC (xs.map (renA f)) G n = atC xs G n := fun n hn => by
  unfold atC
  rw [List.flatMap_def, List.flatMap_def]
  refine congrArg List.flatten (List.map_congr_left ?_)
  intro i hi
  have h := List.mem_range.1 hi
  have e : am (xs.map (renA f)) i = renA f (am xs i) := by
    rw [← am_eq _ i (by simp; omega), List.getElem_map, am_eq]
  rw [e]; simp [aC, renA]
theorem am_ren (f : ByteArray → ByteArray) {xs : List Am} {i : Nat} (h : i < xs.length) : am (xs.map (renA f)) i = renA f (am xs i) := by
  rw [← am_eq _ i (by simpa using h), List.getElem_map, am_eq]
end Go.Proofs.YtdemmjofggemhaaDoor
