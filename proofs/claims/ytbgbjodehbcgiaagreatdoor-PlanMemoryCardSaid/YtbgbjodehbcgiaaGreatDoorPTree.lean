/- The trees that a plan's nodes make, plain: what hangs below a node, and how much there is. No program in sight. -/
import Derived.Test.YtbgbjodehbcgiaaGreatDoorPDefs
import Derived.Test.YtbgbjodehbcgiaaGreatDoorOrderLaw
namespace Go.Proofs.YtbgbjodehbcgiaaGreatDoor

/-- j hangs below i, in some steps. -/
inductive Dsc (N : List PNd) (i : Nat) : Nat → Prop
  | refl : Dsc N i i
  | step {k j : Nat} : Dsc N i k → k < N.length → (j : Int) ∈ chl (nd N k) → Dsc N i j
structure Forest (N : List PNd) : Prop where
  below : ∀ i, i < N.length → ∀ x ∈ chl (nd N i), ∃ k : Nat, x = k ∧ k < i
  uniq : ∀ i j x, i < N.length → j < N.length → x ∈ chl (nd N i) → x ∈ chl (nd N j) → i = j
  two : ∀ i, i < N.length → (chl (nd N i)).Nodup
section
variable {N : List PNd}
theorem Forest.lt (h : Forest N) {i j : Nat} (hi : i < N.length) (hj : (j : Int) ∈ chl (nd N i)) : j < i := by
  obtain ⟨m, e, hm⟩ := h.below _ hi _ hj
  have := Int.ofNat.inj e
  omega
theorem Dsc.le (h : Forest N) {i k : Nat} (d : Dsc N i k) : k ≤ i := by
  induction d with
  | refl => exact Nat.le_refl _
  | step _ hk hj ih => have := h.lt hk hj; omega
theorem Dsc.top {i a k : Nat} (hi : i < N.length) (ha : (a : Int) ∈ chl (nd N i)) (d : Dsc N a k) : Dsc N i k := by
  induction d with
  | refl => exact .step .refl hi ha
  | step _ hk hj ih => exact .step ih hk hj
theorem Dsc.line (h : Forest N) {a b k : Nat} (d : Dsc N a k) : Dsc N b k → Dsc N a b ∨ Dsc N b a := by
  induction d with
  | refl => exact fun e => .inr e
  | step d hk hj ih =>
    intro e
    cases e with
    | refl => exact .inl (.step d hk hj)
    | step e hk2 hj2 =>
      have q := h.uniq _ _ _ hk2 hk hj2 hj
      subst q
      exact ih e
theorem Dsc.apart (h : Forest N) {i a b k : Nat} (hi : i < N.length) (ha : (a : Int) ∈ chl (nd N i)) (hb : (b : Int) ∈ chl (nd N i)) (hne : a ≠ b) (d : Dsc N a k) (e : Dsc N b k) : False := by
  have key : ∀ {a b : Nat}, (a : Int) ∈ chl (nd N i) → (b : Int) ∈ chl (nd N i) → a ≠ b → ¬ Dsc N a b := fun {a b} ha hb hne d => by
    cases d with
    | refl => exact hne rfl
    | step d hk hj =>
      have q := h.uniq _ _ _ hi hk hb hj
      subst q
      have h1 := d.le h
      have h2 := h.lt hi ha
      omega
  rcases d.line h e with c | c
  · exact key ha hb hne c
  · exact key hb ha (Ne.symm hne) c
theorem ordF_dsc (h : Forest N) : ∀ (f i : Nat), i < N.length → ∀ x ∈ ordF N f i, ∃ k : Nat, x = k ∧ Dsc N i k ∧ k < N.length ∧ (nd N k).top = true
  | 0, i, _, x, hx => by simp [ordF] at hx
  | f + 1, i, hi, x, hx => by
    unfold ordF at hx
    rw [Int.toNat_natCast] at hx
    by_cases ht : (nd N i).top = true
    · rw [if_pos ht] at hx
      rcases List.mem_cons.1 hx with rfl | hx
      · exact ⟨i, rfl, .refl, hi, ht⟩
      · obtain ⟨c, hc, hx⟩ := List.mem_flatMap.1 hx
        obtain ⟨a, rfl, ha⟩ := h.below i hi c hc
        obtain ⟨k, rfl, d, q⟩ := ordF_dsc h f a (by omega) x hx
        exact ⟨k, rfl, d.top hi hc, q⟩
    · rw [if_neg ht] at hx; cases hx
theorem ordF_nodup (h : Forest N) : ∀ (f i : Nat), i < N.length → (ordF N f i).Nodup
  | 0, i, _ => by simp [ordF]
  | f + 1, i, hi => by
    unfold ordF
    rw [Int.toNat_natCast]
    by_cases ht : (nd N i).top = true
    · rw [if_pos ht]
      refine List.nodup_cons.2 ⟨fun c => ?_, ?_⟩
      · obtain ⟨c, hc, hx⟩ := List.mem_flatMap.1 c
        obtain ⟨a, rfl, ha⟩ := h.below i hi c hc
        obtain ⟨k, e, d, _⟩ := ordF_dsc h f a (by omega) _ hx
        have e' : i = k := Int.ofNat.inj e
        have := d.le h
        omega
      · refine List.pairwise_flatMap.2 ⟨fun c hc => ?_, (h.two i hi).imp_of_mem fun {c c'} hc hc' hne x hx y hy e => ?_⟩
        · obtain ⟨a, rfl, ha⟩ := h.below i hi c hc
          exact ordF_nodup h f a (by omega)
        · subst e
          obtain ⟨a, rfl, ha⟩ := h.below i hi c hc
          obtain ⟨b, rfl, hb⟩ := h.below i hi c' hc'
          obtain ⟨k, e1, d1, _⟩ := ordF_dsc h f a (by omega) _ hx
          obtain ⟨m, e2, d2, _⟩ := ordF_dsc h f b (by omega) _ hy
          have e3 : k = m := Int.ofNat.inj (e1.symm.trans e2)
          subst e3
          exact d1.apart h hi hc hc' (fun e => hne (by rw [e])) d2
    · rw [if_neg ht]; exact List.nodup_nil
end
/-- Numbers below n that have p, none twice, are at most as many as there are. -/
theorem nodup_count (p : Nat → Bool) : ∀ (n : Nat) {l : List Nat}, l.Nodup → (∀ x ∈ l, x < n ∧ p x = true) → l.length ≤ (List.range n).countP p
  | 0, l, _, h => by
    cases l with
    | nil => exact Nat.zero_le _
    | cons a l => exact absurd (h a List.mem_cons_self).1 (by omega)
  | n + 1, l, hn, h => by
    have h1 := nodup_count p n (l := l.filter (· != n)) (hn.filter _) fun x hx => by
      have h2 := List.mem_filter.1 hx
      have := h x h2.1
      have : x ≠ n := by simpa using h2.2
      exact ⟨by omega, (h x h2.1).2⟩
    have h2 : l.length ≤ (l.filter (· != n)).length + if n ∈ l then 1 else 0 := by
      clear h h1
      induction l with
      | nil => simp
      | cons a l ih =>
        have hn' := List.nodup_cons.1 hn
        have ih := ih hn'.2
        by_cases c : a = n
        · subst c
          rw [if_neg hn'.1] at ih
          rw [List.filter_cons_of_neg (by simp), if_pos List.mem_cons_self, List.length_cons]
          omega
        · rw [List.filter_cons_of_pos (by simpa using c), List.length_cons, List.length_cons]
          have e : (n ∈ a :: l) ↔ n ∈ l := by simp [Ne.symm c]
          simp only [e]
          omega
    rw [List.range_succ, List.countP_append, List.countP_singleton]
    by_cases c : n ∈ l
    · rw [if_pos c] at h2
      rw [if_pos (h n c).2]; omega
    · rw [if_neg c] at h2
      split <;> omega
theorem ordF_len (N : List PNd) (h : Forest N) (f i : Nat) (hi : i < N.length) : (ordF N f i).length ≤ (List.range N.length).countP fun k => (nd N k).top := by
  have h1 : ((ordF N f i).map Int.toNat).Nodup := List.pairwise_map.2 ((ordF_nodup h f i hi).imp_of_mem fun {a b} ha hb hne e => hne (by
    obtain ⟨k, rfl, _⟩ := ordF_dsc h f i hi a ha
    obtain ⟨m, rfl, _⟩ := ordF_dsc h f i hi b hb
    rw [Int.toNat_natCast, Int.toNat_natCast] at e
    rw [e]))
  have h2 := nodup_count (fun k => (nd N k).top) N.length h1 fun x hx => by
    obtain ⟨a, ha, rfl⟩ := List.mem_map.1 hx
    obtain ⟨k, rfl, _, h3, h4⟩ := ordF_dsc h f i hi a ha
    rw [Int.toNat_natCast]; exact ⟨h3, h4⟩
  rwa [List.length_map] at h2
theorem ordF_any (N : List PNd) (h : Forest N) (f : Nat) (i : Int) : (ordF N f i).length ≤ N.length := by
  cases f with
  | zero => simp [ordF]
  | succ f =>
    have e : (ordF N (f + 1) i).length = (ordF N (f + 1) (i.toNat : Nat)).length := by
      unfold ordF
      rw [Int.toNat_natCast]
      split <;> simp
    rw [e]
    rcases Nat.lt_or_ge i.toNat N.length with c | c
    · refine Nat.le_trans (ordF_len N h (f + 1) i.toNat c) ?_
      have := List.countP_le_length (p := fun k => (nd N k).top) (l := List.range N.length)
      rwa [List.length_range] at this
    · have : (nd N i.toNat).top = false := by unfold nd; rw [List.getD_eq_getElem?_getD, List.getElem?_eq_none c]; rfl
      unfold ordF
      rw [Int.toNat_natCast, this]; simp
theorem count_split (n : Nat) (p q : Nat → Bool) : (List.range n).countP (fun i => p i || q i) ≤ (List.range n).countP p + (List.range n).countP q := by
  induction n with
  | zero => simp
  | succ n ih =>
    rw [List.range_succ, List.countP_append, List.countP_append, List.countP_append, List.countP_singleton, List.countP_singleton, List.countP_singleton]
    cases p n <;> cases q n <;> simp <;> omega
theorem count_low (low : Nat) : ∀ n, (List.range n).countP (fun (i : Nat) => decide (low ≤ i)) = n - low
  | 0 => by simp
  | n + 1 => by
    rw [List.range_succ, List.countP_append, count_low low n, List.countP_singleton]
    by_cases c : low ≤ n
    · simp [c]; omega
    · simp [c]; omega
theorem count_at (a : Int) : ∀ n, (List.range n).countP (fun (i : Nat) => decide ((i : Int) = a)) ≤ 1
  | 0 => by simp
  | n + 1 => by
    rw [List.range_succ, List.countP_append, List.countP_singleton]
    by_cases c : (n : Int) = a
    · have : (List.range n).countP (fun (i : Nat) => decide ((i : Int) = a)) = 0 := by
        rw [List.countP_eq_zero]
        intro x hx
        have := List.mem_range.1 hx
        simp; omega
      rw [this]; simp [c]
    · have := count_at a n
      simp [c]; exact this
theorem count_mem (n : Nat) : ∀ P : List Int, (List.range n).countP (fun (i : Nat) => decide ((i : Int) ∈ P)) ≤ P.length
  | [] => by simp
  | a :: P => by
    have h1 := count_split n (fun (i : Nat) => decide ((i : Int) = a)) (fun (i : Nat) => decide ((i : Int) ∈ P))
    have h2 := count_at a n
    have h3 := count_mem n P
    have e : (fun i : Nat => decide ((i : Int) ∈ a :: P)) = fun i : Nat => decide ((i : Int) = a) || decide ((i : Int) ∈ P) := by
      funext i
      rw [Bool.eq_iff_iff]
      simp
    rw [e, List.length_cons]; omega
end Go.Proofs.YtbgbjodehbcgiaaGreatDoor
