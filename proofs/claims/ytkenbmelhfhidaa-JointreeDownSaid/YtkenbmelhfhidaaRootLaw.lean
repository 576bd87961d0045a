/- Rerooting as the program and the reference make it, step by step; that it turns a tree, and back again. No program in sight. -/
import Derived.Test.YtkenbmelhfhidaaJtLaw4
import Derived.Test.YtkenbmelhfhidaaZed
namespace Go.Proofs.Ytkenbmelhfhidaa

/-- The edges of the way get the one behind them as their parent. -/
def trnF : List Nat → Int → (Nat → Int) → Nat → Int
  | [], _, f => f
  | a :: l, above, f => trnF l (a : Int) (updI f a above)
theorem trnF_out : ∀ {l : List Nat} {above : Int} {f : Nat → Int} {i : Nat}, i ∉ l → trnF l above f i = f i
  | [], _, _, _, _ => rfl
  | a :: l, above, f, i, h => by
    show trnF l (a : Int) (updI f a above) i = _
    rw [trnF_out (fun c => h (List.mem_cons_of_mem _ c))]
    unfold updI
    rw [if_neg fun e => h (by rw [e]; simp)]
theorem trnF_at : ∀ {l : List Nat} {above : Int} {f : Nat → Int}, l.Nodup → ∀ k (h : k < l.length), trnF l above f l[k] = if k = 0 then above else ((zed l (k - 1) : Nat) : Int)
  | [], _, _, _, k, h => by simp at h
  | a :: l, above, f, hn, k, h => by
    have hn' := List.nodup_cons.1 hn
    show trnF l (a : Int) (updI f a above) _ = _
    cases k with
    | zero =>
      show trnF l (a : Int) (updI f a above) a = _
      rw [trnF_out hn'.1]; unfold updI; rw [if_pos rfl]; rfl
    | succ k =>
      have h' : k < l.length := by simpa using h
      show trnF l (a : Int) (updI f a above) l[k] = _
      rw [trnF_at hn'.2 k h']
      cases k with
      | zero => simp [zed]
      | succ k => simp [zed]
theorem trnF_turned {p : Nat → Int} {a : Nat} {l : List Nat} (hw : WayP p (a :: l)) (hn : (a :: l).Nodup) : trnF (a :: l) (-1) p = turned p (a :: l) := by
  obtain ⟨t1, t2, t3⟩ := turned_at hw hn
  funext i
  by_cases c : i ∈ a :: l
  · obtain ⟨k, hk, rfl⟩ := List.getElem_of_mem c
    rw [trnF_at hn k hk]
    cases k with
    | zero => rw [if_pos rfl]; exact t1.symm
    | succ k =>
      rw [if_neg (by omega), t3 k hk, ← zed_eq _ _ (by omega)]
      rfl
  · rw [trnF_out c, t2 i c]
theorem Tree.way_p {n : Nat} {p : Nat → Int} (h : Tree n p) : ∀ i, i < n → WayP p (way n p i) := by
  refine h.way_ind (fun i hi h0 => ?_) fun i hi h0 h1 ih => ?_
  · rw [h.way_eq hi, if_pos h0]; exact h0
  · rw [h.way_eq hi, if_neg (by omega)]
    rw [h.way_eq h1] at ih ⊢
    exact ⟨by omega, ih⟩
theorem Tree.way_nodup {n : Nat} {p : Nat → Int} (h : Tree n p) : ∀ i, i < n → (way n p i).Nodup := by
  obtain ⟨d, hd⟩ := h.rank
  refine h.way_ind (fun i hi h0 => ?_) fun i hi h0 h1 ih => ?_
  · rw [h.way_eq hi, if_pos h0]; simp
  · rw [h.way_eq hi, if_neg (by omega), List.nodup_cons]
    refine ⟨fun c => ?_, ih⟩
    have h2 := hd i hi h0
    rcases h.way_rank hd _ h1 _ c with e | e
    · rw [← e] at h2; omega
    · omega
/-- The tree with the root r. -/
def rer (n : Nat) (p : Nat → Int) (r : Nat) : Nat → Int := trnF (way n p r) (-1) p
theorem rer_facts {n : Nat} {p : Nat → Int} (h : Tree n p) {r : Nat} (hr : r < n) : Tree n (rer n p r) ∧ rer n p r r = -1 ∧
    (∀ i j : Nat, (rer n p r i = j ∨ rer n p r j = i) ↔ (p i = j ∨ p j = i)) ∧ (∀ E : List (BitVec 32), E.length = n → (OneTop E (rer n p r) ↔ OneTop E p)) := by
  have hw := h.way_p r hr
  have hn := h.way_nodup r hr
  have hl := h.way_lt r hr
  unfold rer
  rw [h.way_eq hr] at hw hn hl ⊢
  rw [trnF_turned hw hn]
  obtain ⟨a, b, _, c, d⟩ := turned_facts h hw hl hn
  exact ⟨a, b, c, d⟩
theorem tree_uniq {n : Nat} {p q : Nat → Int} (h : Tree n p) (_k : Tree n q) (hadj : ∀ i j : Nat, (q i = j ∨ q j = i) ↔ (p i = j ∨ p j = i)) {r : Nat} (hr : r < n) (h0 : p r = -1) (k0 : q r = -1) : ∀ i, i < n → q i = p i := by
  obtain ⟨d, hd⟩ := h.rank
  refine h.way_ind (fun i hi hi0 => ?_) fun i hi hi0 hj ih => ?_
  · obtain rfl := h.one i r hi hr hi0 h0
    rw [k0, h0]
  · have e : p i = ((p i).toNat : Nat) := by omega
    generalize (p i).toNat = j at e hj ih
    rw [e]
    rcases (hadj i j).2 (.inl e) with c | c
    · exact c
    · exfalso
      rw [ih] at c
      have h1 := hd i hi (by omega)
      have h2 := hd j hj (by omega)
      rw [e, Int.toNat_natCast] at h1
      rw [c, Int.toNat_natCast] at h2
      omega
theorem rer_back {n : Nat} {p : Nat → Int} (h : Tree n p) {r old : Nat} (hr : r < n) (ho : old < n) (h0 : p old = -1) : ∀ i, i < n → rer n (rer n p r) old i = p i := by
  obtain ⟨t1, _, t3, _⟩ := rer_facts h hr
  obtain ⟨u1, u2, u3, _⟩ := rer_facts t1 ho
  exact tree_uniq h u1 (fun i j => (u3 i j).trans (t3 i j)) ho h0 u2
theorem rowOf_pz (P : List Int) : rowOf P.length (pz P) = P := by
  unfold rowOf
  apply List.ext_getElem?
  intro i
  by_cases h : i < P.length
  · rw [List.getElem?_map, List.getElem?_range h, List.getElem?_eq_getElem h, pz_eq P i h]; rfl
  · rw [List.getElem?_eq_none (by simp; omega), List.getElem?_eq_none (by omega)]
theorem pz_rowF {n : Nat} {f : Nat → Int} {i : Nat} (h : i < n) : pz (rowOf n f) i = f i := by
  rw [← pz_eq _ i (by simpa using h)]; simp [rowOf]
/-- What Reroot answers. -/
def RootIs (P : List Int) (root : Int) (Z : List Int) (code : Int) : Prop :=
  (treeB P = false ∧ Z = [] ∧ code = 160) ∨ (treeB P = true ∧ (root < 0 ∨ (P.length : Int) ≤ root) ∧ Z = [] ∧ code = 141) ∨
  (treeB P = true ∧ ∃ r : Nat, root = r ∧ r < P.length ∧ Z = rowOf P.length (rer P.length (pz P) r) ∧ code = 0)
theorem rootIs_uniq {P : List Int} {root : Int} {Z Y : List Int} {a b : Int} (h : RootIs P root Z a) (k : RootIs P root Y b) : Z = Y ∧ a = b := by
  rcases h with ⟨a1, a2, a3⟩ | ⟨a1, a2, a3, a4⟩ | ⟨a1, r, a2, a3, a4, a5⟩ <;> rcases k with ⟨b1, b2, b3⟩ | ⟨b1, b2, b3, b4⟩ | ⟨b1, q, b2, b3, b4, b5⟩ <;>
  first
    | (rw [a1] at b1; cases b1; done)
    | omega
    | exact ⟨a2.trans b2.symm, a3.trans b3.symm⟩
    | exact ⟨a3.trans b3.symm, a4.trans b4.symm⟩
    | (obtain rfl : r = q := by omega
       exact ⟨a4.trans b4.symm, a5.trans b5.symm⟩)
theorem rootIs_len {P : List Int} {root : Int} {Z : List Int} {a : Int} (h : RootIs P root Z a) : Z.length ≤ 7 := by
  rcases h with ⟨_, rfl, _⟩ | ⟨_, _, rfl, _⟩ | ⟨a1, r, _, _, rfl, _⟩
  · simp
  · simp
  · simp; exact ((treeB_iff P).1 a1).1
end Go.Proofs.Ytkenbmelhfhidaa
