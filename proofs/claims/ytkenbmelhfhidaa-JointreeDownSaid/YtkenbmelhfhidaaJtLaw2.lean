/- Trees told by parents: how the root is reached; a tree turned to another root. No program in sight. -/
import Derived.Test.YtkenbmelhfhidaaJtLaw
namespace Go.Proofs.Ytkenbmelhfhidaa

/-! ### Up to the root -/
def up (p : Nat → Int) : Nat → Int → Int
  | 0, i => i
  | k + 1, i => if i < 0 then i else up p k (p i.toNat)
theorem up_neg (p : Nat → Int) {i : Int} (h : i < 0) : ∀ k, up p k i = i
  | 0 => rfl
  | k + 1 => by unfold up; rw [if_pos h]
theorem up_nat (p : Nat → Int) (k i : Nat) : up p (k + 1) (i : Int) = up p k (p i) := by
  conv => lhs; unfold up
  rw [if_neg (by omega), Int.toNat_natCast]
theorem up_more {p : Nat → Int} : ∀ {k : Nat} {i : Int}, up p k i < 0 → ∀ m, k ≤ m → up p m i = up p k i
  | 0, i, h, m, _ => up_neg p h m
  | k + 1, i, h, 0, hm => by omega
  | k + 1, i, h, m + 1, hm => by
    unfold up at h ⊢
    split
    · rfl
    · next c => rw [if_neg c] at h; exact up_more h m (by omega)
/-- A tree's rank below the number of its edges. -/
theorem Tree.low {n : Nat} {p : Nat → Int} (h : Tree n p) : ∃ d : Nat → Nat, (∀ i, i < n → d i < n) ∧ ∀ i, i < n → 0 ≤ p i → d (p i).toNat < d i := by
  obtain ⟨d, hd⟩ := h.rank
  refine ⟨fun i => cntB (fun j => decide (d j < d i)) n, fun i hi => cntB_lt hi (by simp), fun i hi h0 => ?_⟩
  have h1 := hd i hi h0
  have h2 := (h.rng i hi).2
  exact cntB_strict (j := (p i).toNat) (by simpa using h1) (by simp) (fun k _ hk => by
    have : d k < d (p i).toNat := by simpa using hk
    simp; omega) (by omega)
theorem Tree.reach {n : Nat} {p : Nat → Int} (h : Tree n p) (i : Nat) (hi : i < n) : up p n i = -1 := by
  obtain ⟨d, hlt, hd⟩ := h.low
  have key : ∀ m i, i < n → d i ≤ m → up p (m + 1) (i : Int) = -1 := by
    intro m
    induction m with
    | zero =>
      intro i hi hm
      have h1 := h.rng i hi
      by_cases c : p i = -1
      · rw [up_nat, c]; rfl
      · have := hd i hi (by omega); omega
    | succ m ih =>
      intro i hi hm
      have h1 := h.rng i hi
      by_cases c : p i = -1
      · rw [up_nat, c]; exact up_neg p (by omega) _
      · have h2 := hd i hi (by omega)
        have h3 := ih (p i).toNat (by omega) (by omega)
        rw [up_nat]
        rw [Int.toNat_of_nonneg (by omega)] at h3
        exact h3
  have h1 := hlt i hi
  have h2 := key (n - 1) i hi (by omega)
  rwa [Nat.sub_add_cancel (by omega)] at h2
theorem tree_of_reach {n : Nat} {p : Nat → Int} (rng : ∀ i, i < n → -1 ≤ p i ∧ p i < n) (one : ∀ i j, i < n → j < n → p i = -1 → p j = -1 → i = j) (h : ∀ i : Nat, i < n → up p n i < 0) : Tree n p := by
  refine ⟨rng, ⟨fun i => cntB (fun k => decide (0 ≤ up p k i)) n, fun i hi h0 => ?_⟩, one⟩
  have h1 := h i hi
  have e1 : cntB (fun k => decide (0 ≤ up p k (i : Int))) (n + 1) = cntB (fun k => decide (0 ≤ up p k (i : Int))) n := by
    show _ + _ = _
    rw [if_neg (by simp; omega)]; rfl
  have e2 := cntB_shift (fun k => decide (0 ≤ up p k (i : Int))) n
  rw [e1, if_pos (by simp [up])] at e2
  have e3 : cntB (fun k => decide (0 ≤ up p (k + 1) (i : Int))) n = cntB (fun k => decide (0 ≤ up p k ((p i).toNat : Int))) n := by
    refine cntB_congr fun k _ => ?_
    rw [up_nat, Int.toNat_of_nonneg h0]
  rw [e3] at e2
  show cntB (fun k => decide (0 ≤ up p k ((p i).toNat : Int))) n < cntB (fun k => decide (0 ≤ up p k (i : Int))) n
  omega
theorem Tree.root {n : Nat} {p : Nat → Int} (h : Tree n p) (hn : 0 < n) : ∃ r, r < n ∧ p r = -1 := by
  obtain ⟨d, hd⟩ := h.rank
  have key : ∀ m i, d i ≤ m → i < n → ∃ r, r < n ∧ p r = -1 := by
    intro m
    induction m with
    | zero =>
      intro i hm hi
      have h1 := h.rng i hi
      by_cases c : p i = -1
      · exact ⟨i, hi, c⟩
      · have := hd i hi (by omega); omega
    | succ m ih =>
      intro i hm hi
      have h1 := h.rng i hi
      by_cases c : p i = -1
      · exact ⟨i, hi, c⟩
      · have h2 := hd i hi (by omega)
        exact ih (p i).toNat (by omega) (by omega)
  exact key _ 0 (Nat.le_refl _) hn

/-! ### One step of turning -/
/-- c, a child of the root r, becomes the root. -/
def sw (q : Nat → Int) (c r : Nat) : Nat → Int := fun i => if i = c then -1 else if i = r then (c : Int) else q i
theorem sw_tree {n : Nat} {q : Nat → Int} {c r : Nat} (h : Tree n q) (hc : c < n) (hr : r < n) (hcr : q c = r) (hrr : q r = -1) : Tree n (sw q c r) := by
  have hne : c ≠ r := by rintro rfl; omega
  obtain ⟨d, hd⟩ := h.rank
  let S : Nat → Prop := fun i => ∃ k, up q k i = c
  have hSr : ¬ S r := by
    rintro ⟨k, hk⟩
    cases k with
    | zero => have : (r : Int) = c := hk; omega
    | succ k => rw [up_nat, hrr, up_neg q (by omega)] at hk; omega
  have hSc : S c := ⟨0, rfl⟩
  have hdn : ∀ i, i ≠ c → S i → ∀ h0 : 0 ≤ q i, S (q i).toNat := by
    rintro i hi ⟨k, hk⟩ h0
    cases k with
    | zero => have : (i : Int) = c := hk; omega
    | succ k => rw [up_nat] at hk; exact ⟨k, by rw [Int.toNat_of_nonneg h0]; exact hk⟩
  have hup : ∀ i, 0 ≤ q i → S (q i).toNat → S i := by
    rintro i h0 ⟨k, hk⟩
    rw [Int.toNat_of_nonneg h0] at hk
    exact ⟨k + 1, by rw [up_nat]; exact hk⟩
  refine ⟨fun i hi => ?_, ⟨fun i => open Classical in if S i then d i else d i + (d c + 1), fun i hi h0 => ?_⟩, fun i j hi hj a b => ?_⟩
  · unfold sw
    split
    · omega
    · split
      · omega
      · exact h.rng i hi
  · by_cases e1 : i = c
    · unfold sw at h0; rw [if_pos e1] at h0; omega
    · by_cases e2 : i = r
      · subst e2
        have : sw q c i i = c := by unfold sw; rw [if_neg e1, if_pos rfl]
        rw [this, Int.toNat_natCast]
        simp only [if_pos hSc, if_neg hSr]
        omega
      · have e : sw q c r i = q i := by unfold sw; rw [if_neg e1, if_neg e2]
        rw [e] at h0 ⊢
        have h1 := hd i hi h0
        by_cases c1 : S i
        · have c2 := hdn i e1 c1 h0
          simp only [if_pos c1, if_pos c2]; exact h1
        · have c2 : ¬ S (q i).toNat := fun x => c1 (hup i h0 x)
          simp only [if_neg c1, if_neg c2]; omega
  · have one : ∀ i, i < n → sw q c r i = -1 → i = c := by
      intro i hi a
      unfold sw at a
      split at a
      · assumption
      · split at a
        · omega
        · exact absurd (h.one i r hi hr a hrr) (by assumption)
    rw [one i hi a, one j hj b]
theorem sw_top {E : List (BitVec 32)} {q : Nat → Int} {c r : Nat} (ho : OneTop E q) (hc : c < E.length) (hr : r < E.length) (hcr : q c = r) (hrr : q r = -1) : OneTop E (sw q c r) := by
  have hne : c ≠ r := by rintro rfl; omega
  intro v i j hi hj a b
  have sc : sw q c r c = -1 := by unfold sw; rw [if_pos rfl]
  have sr : sw q c r r = c := by unfold sw; rw [if_neg (Ne.symm hne), if_pos rfl]
  have so : ∀ i, i ≠ c → i ≠ r → sw q c r i = q i := fun i h1 h2 => by unfold sw; rw [if_neg h1, if_neg h2]
  by_cases both : hv (ed E r) v ∧ hv (ed E c) v
  · have one : ∀ i, i < E.length → Top E (sw q c r) v i → i = c := by
      intro i hi a
      apply Classical.byContradiction
      intro e1
      by_cases e2 : i = r
      · subst e2
        rcases a.2 with x | x
        · rw [sr] at x; omega
        · rw [sr, Int.toNat_natCast] at x; exact x both.2
      · have : Top E q v i := ⟨a.1, by rw [← so i e1 e2]; exact a.2⟩
        exact e2 (ho v i r hi hr this ⟨both.1, .inl hrr⟩)
    rw [one i hi a, one j hj b]
  · have tr : ∀ i, Top E (sw q c r) v i → Top E q v i := by
      intro i a
      by_cases e1 : i = c
      · subst e1
        exact ⟨a.1, .inr (by rw [hcr, Int.toNat_natCast]; exact fun x => both ⟨x, a.1⟩)⟩
      · by_cases e2 : i = r
        · subst e2; exact ⟨a.1, .inl hrr⟩
        · exact ⟨a.1, by rw [← so i e1 e2]; exact a.2⟩
    exact ho v i j hi hj (tr i a) (tr j b)
theorem sw_sw {q : Nat → Int} {c r : Nat} (hcr : q c = r) (hrr : q r = -1) : sw (sw q c r) r c = q := by
  have hne : c ≠ r := by rintro rfl; omega
  funext i
  unfold sw
  by_cases e1 : i = r
  · subst e1; rw [if_pos rfl, hrr]
  · rw [if_neg e1]
    by_cases e2 : i = c
    · subst e2; rw [if_pos rfl, hcr]
    · rw [if_neg e2, if_neg e2, if_neg e1]
theorem sw_adj {q : Nat → Int} {c r : Nat} (hcr : q c = r) (hrr : q r = -1) (i j : Nat) : (sw q c r i = j ∨ sw q c r j = i) ↔ (q i = j ∨ q j = i) := by
  have hne : c ≠ r := by rintro rfl; omega
  have sc : sw q c r c = -1 := by unfold sw; rw [if_pos rfl]
  have sr : sw q c r r = c := by unfold sw; rw [if_neg (Ne.symm hne), if_pos rfl]
  have so : ∀ i, i ≠ c → i ≠ r → sw q c r i = q i := fun i h1 h2 => by unfold sw; rw [if_neg h1, if_neg h2]
  by_cases i1 : i = c
  · subst i1
    by_cases j1 : j = i
    · subst j1; rw [sc, hcr]; omega
    · by_cases j2 : j = r
      · subst j2; rw [sc, sr, hcr, hrr]; omega
      · rw [sc, so j j1 j2, hcr]; omega
  · by_cases i2 : i = r
    · subst i2
      by_cases j1 : j = c
      · subst j1; rw [sc, sr, hcr, hrr]; omega
      · by_cases j2 : j = i
        · subst j2; rw [sr, hrr]; omega
        · rw [sr, so j j1 j2, hrr]; omega
    · by_cases j1 : j = c
      · subst j1; rw [so i i1 i2, sc, hcr]; omega
      · by_cases j2 : j = r
        · subst j2; rw [so i i1 i2, sr, hrr]; omega
        · rw [so i i1 i2, so j j1 j2]

/-! ### The way to the root, and the tree turned -/
def WayP (p : Nat → Int) : List Nat → Prop
  | [] => False
  | [a] => p a = -1
  | a :: b :: l => p a = b ∧ WayP p (b :: l)
def turned (p : Nat → Int) : List Nat → Nat → Int
  | [] => p
  | [_] => p
  | a :: b :: l => sw (turned p (b :: l)) a b
theorem way_exists {n : Nat} {p : Nat → Int} (h : Tree n p) (i : Nat) (hi : i < n) : ∃ l, WayP p (i :: l) ∧ (∀ x ∈ i :: l, x < n) ∧ (i :: l).Nodup := by
  obtain ⟨d, hd⟩ := h.rank
  have key : ∀ m i, d i ≤ m → i < n → ∃ l, WayP p (i :: l) ∧ (∀ x ∈ i :: l, x < n ∧ d x ≤ d i) ∧ (i :: l).Nodup := by
    intro m
    induction m with
    | zero =>
      intro i hm hi
      have h1 := h.rng i hi
      by_cases c : p i = -1
      · exact ⟨[], c, fun x hx => by rw [List.mem_singleton.1 hx]; exact ⟨hi, Nat.le_refl _⟩, by simp⟩
      · have := hd i hi (by omega); omega
    | succ m ih =>
      intro i hm hi
      have h1 := h.rng i hi
      by_cases c : p i = -1
      · exact ⟨[], c, fun x hx => by rw [List.mem_singleton.1 hx]; exact ⟨hi, Nat.le_refl _⟩, by simp⟩
      · have h2 := hd i hi (by omega)
        obtain ⟨l, hw, hlt, hnd⟩ := ih (p i).toNat (by omega) (by omega)
        refine ⟨(p i).toNat :: l, ⟨by omega, hw⟩, fun x hx => ?_, ?_⟩
        · rcases List.mem_cons.1 hx with rfl | hx
          · exact ⟨hi, Nat.le_refl _⟩
          · have := hlt x hx; omega
        · rw [List.nodup_cons]
          refine ⟨fun hx => ?_, hnd⟩
          have := hlt i hx; omega
  obtain ⟨l, h1, h2, h3⟩ := key _ i (Nat.le_refl _) hi
  exact ⟨l, h1, fun x hx => (h2 x hx).1, h3⟩
theorem turned_facts {n : Nat} {p : Nat → Int} (h : Tree n p) : ∀ {a : Nat} {l : List Nat}, WayP p (a :: l) → (∀ x ∈ a :: l, x < n) → (a :: l).Nodup →
    Tree n (turned p (a :: l)) ∧ turned p (a :: l) a = -1 ∧ (∀ i, i ∉ a :: l → turned p (a :: l) i = p i) ∧
    (∀ i j : Nat, (turned p (a :: l) i = j ∨ turned p (a :: l) j = i) ↔ (p i = j ∨ p j = i)) ∧ (∀ E : List (BitVec 32), E.length = n → (OneTop E (turned p (a :: l)) ↔ OneTop E p))
  | a, [], hw, _, _ => ⟨h, hw, fun _ _ => rfl, fun _ _ => Iff.rfl, fun _ _ => Iff.rfl⟩
  | a, b :: l, hw, hlt, hnd => by
    obtain ⟨h1, h2⟩ := hw
    have hnd' := List.nodup_cons.1 hnd
    obtain ⟨t, tb, tout, tadj, ttop⟩ := turned_facts h h2 (fun x hx => hlt x (List.mem_cons_of_mem _ hx)) hnd'.2
    have ha : turned p (b :: l) a = b := by rw [tout a hnd'.1]; exact h1
    have hlta := hlt a List.mem_cons_self
    have hltb := hlt b (by simp)
    have st := sw_tree t hlta hltb ha tb
    refine ⟨st, ?_, fun i hi => ?_, fun i j => (sw_adj ha tb i j).trans (tadj i j), fun E hE => ?_⟩
    · show sw _ a b a = -1
      unfold sw; rw [if_pos rfl]
    · show sw _ a b i = _
      have i1 : i ≠ a := fun e => hi (by rw [e]; simp)
      have i2 : i ≠ b := fun e => hi (by rw [e]; simp)
      unfold sw
      rw [if_neg i1, if_neg i2]
      exact tout i fun hx => hi (List.mem_cons_of_mem _ hx)
    · rw [← ttop E hE]
      subst hE
      constructor
      · intro ho
        have h3 : sw (turned p (b :: l)) a b b = a := by
          unfold sw; rw [if_neg, if_pos rfl]
          rintro rfl; exact hnd'.1 (by simp)
        have h4 : sw (turned p (b :: l)) a b a = -1 := by unfold sw; rw [if_pos rfl]
        have := sw_top (q := sw (turned p (b :: l)) a b) ho hltb hlta h3 h4
        rwa [sw_sw ha tb] at this
      · exact fun ho => sw_top ho hlta hltb ha tb
/-- What the turned tree says at each edge of the way. -/
theorem turned_at {p : Nat → Int} : ∀ {a : Nat} {l : List Nat}, WayP p (a :: l) → (a :: l).Nodup →
    turned p (a :: l) a = -1 ∧ (∀ i, i ∉ a :: l → turned p (a :: l) i = p i) ∧ ∀ k (h : k + 1 < (a :: l).length), turned p (a :: l) (a :: l)[k + 1] = ((a :: l)[k] : Nat)
  | a, [], hw, _ => ⟨hw, fun _ _ => rfl, fun k h => by simp at h⟩
  | a, b :: l, hw, hnd => by
    have hnd' := List.nodup_cons.1 hnd
    obtain ⟨t1, t2, t3⟩ := turned_at hw.2 hnd'.2
    have hab : b ≠ a := fun e => hnd'.1 (by rw [← e]; simp)
    refine ⟨by show sw _ a b a = -1; unfold sw; rw [if_pos rfl], fun i hi => ?_, fun k hk => ?_⟩
    · show sw _ a b i = _
      unfold sw
      rw [if_neg fun e => hi (by rw [e]; simp), if_neg fun e => hi (by rw [e]; simp)]
      exact t2 i fun hx => hi (List.mem_cons_of_mem _ hx)
    · show sw _ a b _ = _
      cases k with
      | zero =>
        show sw _ a b b = (a : Int)
        unfold sw; rw [if_neg hab, if_pos rfl]
      | succ k =>
        have hk2 : k + 1 < (b :: l).length := by simpa using hk
        have e1 : (a :: b :: l)[k + 1 + 1] = (b :: l)[k + 1] := rfl
        have e2 : (a :: b :: l)[k + 1] = (b :: l)[k] := rfl
        rw [e1, e2, ← t3 k hk2]
        unfold sw
        have m : (b :: l)[k + 1] ∈ b :: l := List.getElem_mem _
        rw [if_neg fun e => hnd'.1 (by rw [← e]; exact m), if_neg]
        intro e
        have := List.nodup_cons.1 hnd'.2
        refine this.1 ?_
        rw [← e]
        exact List.getElem_mem (by simpa using hk2 : k < l.length)
/-- With any edge as the root there is a join tree too. -/
theorem jt_root {E : List (BitVec 32)} {p : Nat → Int} (h : JT E p) (r : Nat) (hr : r < E.length) : ∃ q, JT E q ∧ q r = -1 := by
  obtain ⟨l, hw, hlt, hnd⟩ := way_exists h.1 r hr
  obtain ⟨t1, t2, _, _, t5⟩ := turned_facts h.1 hw hlt hnd
  exact ⟨_, ⟨t1, (t5 E rfl).2 h.2⟩, t2⟩
end Go.Proofs.Ytkenbmelhfhidaa
