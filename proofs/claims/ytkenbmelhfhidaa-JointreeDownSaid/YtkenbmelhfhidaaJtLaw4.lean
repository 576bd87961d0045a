/- Ways in a tree, what lies between two edges, and the sum of sizes. No program in sight. -/
import Derived.Test.YtkenbmelhfhidaaJtLaw3
namespace Go.Proofs.Ytkenbmelhfhidaa

def wayF (p : Nat → Int) : Nat → Int → List Nat
  | 0, _ => []
  | f + 1, i => if i < 0 then [] else i.toNat :: wayF p f (p i.toNat)
theorem wayF_neg (p : Nat → Int) {i : Int} (h : i < 0) : ∀ f, wayF p f i = []
  | 0 => rfl
  | f + 1 => by unfold wayF; rw [if_pos h]
theorem wayF_more {p : Nat → Int} : ∀ {f : Nat} {i : Int}, up p f i < 0 → ∀ m, f ≤ m → wayF p m i = wayF p f i
  | 0, i, h, m, _ => by rw [wayF_neg p (show i < 0 from h) m]; rfl
  | f + 1, i, h, 0, hm => by omega
  | f + 1, i, h, m + 1, hm => by
    unfold wayF
    split
    · rfl
    · next c =>
      unfold up at h
      rw [if_neg c] at h
      rw [wayF_more h m (by omega)]
/-- The edges from i to the root, both in. -/
def way (n : Nat) (p : Nat → Int) (i : Nat) : List Nat := wayF p n i
theorem Tree.way_eq {n : Nat} {p : Nat → Int} (h : Tree n p) {i : Nat} (hi : i < n) : way n p i = i :: (if p i = -1 then [] else way n p (p i).toNat) := by
  unfold way
  obtain ⟨m, rfl⟩ : ∃ m, n = m + 1 := ⟨n - 1, by omega⟩
  have h1 := h.reach i hi
  rw [up_nat] at h1
  conv => lhs; unfold wayF
  rw [if_neg (by omega), Int.toNat_natCast]
  congr 1
  have h2 := h.rng i hi
  split
  · next c => rw [c]; exact wayF_neg p (by omega) _
  · next c =>
    rw [← wayF_more (f := m) (by rw [h1]; omega) (m + 1) (by omega), Int.toNat_of_nonneg (by omega)]
theorem Tree.way_ind {n : Nat} {p : Nat → Int} (h : Tree n p) {Q : Nat → Prop} (h0 : ∀ i, i < n → p i = -1 → Q i) (h1 : ∀ i, i < n → 0 ≤ p i → (p i).toNat < n → Q (p i).toNat → Q i) : ∀ i, i < n → Q i := by
  obtain ⟨d, hd⟩ := h.rank
  have key : ∀ m i, d i ≤ m → i < n → Q i := by
    intro m
    induction m with
    | zero =>
      intro i hm hi
      have h2 := h.rng i hi
      by_cases c : p i = -1
      · exact h0 i hi c
      · have := hd i hi (by omega); omega
    | succ m ih =>
      intro i hm hi
      have h2 := h.rng i hi
      by_cases c : p i = -1
      · exact h0 i hi c
      · have h3 := hd i hi (by omega)
        exact h1 i hi (by omega) (by omega) (ih _ (by omega) (by omega))
  exact fun i => key _ i (Nat.le_refl _)
section
variable {n : Nat} {p : Nat → Int} (h : Tree n p)
include h
theorem Tree.mem_way {i : Nat} (hi : i < n) {k : Nat} : k ∈ way n p i ↔ k = i ∨ (0 ≤ p i ∧ k ∈ way n p (p i).toNat) := by
  rw [h.way_eq hi, List.mem_cons]
  have := h.rng i hi
  split
  · next c => simp; intro h; omega
  · next c =>
    constructor
    · rintro (a | a)
      · exact .inl a
      · exact .inr ⟨by omega, a⟩
    · rintro (a | a)
      · exact .inl a
      · exact .inr a.2
theorem Tree.way_self {i : Nat} (hi : i < n) : i ∈ way n p i := (h.mem_way hi).2 (.inl rfl)
theorem Tree.way_lt : ∀ i, i < n → ∀ k, k ∈ way n p i → k < n := by
  refine h.way_ind (fun i hi c k hk => ?_) (fun i hi c hl ih k hk => ?_)
  · rcases (h.mem_way hi).1 hk with a | ⟨a, _⟩
    · omega
    · omega
  · rcases (h.mem_way hi).1 hk with a | ⟨_, a⟩
    · omega
    · exact ih k a
theorem Tree.way_rank {d : Nat → Nat} (hd : ∀ i, i < n → 0 ≤ p i → d (p i).toNat < d i) : ∀ i, i < n → ∀ k, k ∈ way n p i → k = i ∨ d k < d i := by
  refine h.way_ind (fun i hi c k hk => ?_) (fun i hi c hl ih k hk => ?_)
  · rcases (h.mem_way hi).1 hk with a | ⟨a, _⟩
    · exact .inl a
    · omega
  · rcases (h.mem_way hi).1 hk with a | ⟨_, a⟩
    · exact .inl a
    · have := hd i hi c
      rcases ih k a with e | e
      · subst e; exact .inr this
      · exact .inr (by omega)
theorem Tree.way_anti {i k : Nat} (hi : i < n) (hk : k < n) (a : k ∈ way n p i) (b : i ∈ way n p k) : k = i := by
  obtain ⟨d, hd⟩ := h.rank
  rcases h.way_rank hd i hi k a with e | e
  · exact e
  · rcases h.way_rank hd k hk i b with e2 | e2
    · exact e2.symm
    · omega
theorem Tree.way_trans : ∀ i, i < n → ∀ k m, k ∈ way n p i → m ∈ way n p k → m ∈ way n p i := by
  refine h.way_ind (fun i hi c k m hk hm => ?_) (fun i hi c hl ih k m hk hm => ?_)
  · rcases (h.mem_way hi).1 hk with a | ⟨a, _⟩
    · subst a; exact hm
    · omega
  · rcases (h.mem_way hi).1 hk with a | ⟨_, a⟩
    · subst a; exact hm
    · exact (h.mem_way hi).2 (.inr ⟨c, ih k m a hm⟩)
/-- Of two edges on one way one lies above the other. -/
theorem Tree.way_comp : ∀ i, i < n → ∀ k m, k ∈ way n p i → m ∈ way n p i → m ∈ way n p k ∨ k ∈ way n p m := by
  refine h.way_ind (fun i hi c k m hk hm => ?_) (fun i hi c hl ih k m hk hm => ?_)
  · rcases (h.mem_way hi).1 hk with a | ⟨a, _⟩
    · subst a; exact .inl hm
    · omega
  · rcases (h.mem_way hi).1 hk with a | ⟨_, a⟩
    · subst a; exact .inl hm
    · rcases (h.mem_way hi).1 hm with b | ⟨_, b⟩
      · subst b; exact .inr hk
      · exact ih k m a b
theorem Tree.way_take (m : Nat) : ∀ i, i < n → m ∈ way n p i → ∀ k, k ∈ (way n p i).takeWhile (fun x => x != m) ↔ k ∈ way n p i ∧ m ∈ way n p k ∧ k ≠ m := by
  refine h.way_ind (fun i hi c hm k => ?_) (fun i hi c hl ih hm k => ?_)
  · have hmi : m = i := by
      rcases (h.mem_way hi).1 hm with a | ⟨a, _⟩
      · exact a
      · omega
    subst hmi
    rw [h.way_eq hi, if_pos c]
    simp
    exact fun a _ => a
  · by_cases e : m = i
    · subst e
      rw [h.way_eq hi]
      simp only [List.takeWhile_cons, bne_self_eq_false, Bool.false_eq_true, if_false, List.not_mem_nil, false_iff]
      rintro ⟨a, b, c2⟩
      rw [← h.way_eq hi] at a
      exact c2 (h.way_anti hi (h.way_lt m hi k a) a b)
    · have hm' : m ∈ way n p (p i).toNat := by
        rcases (h.mem_way hi).1 hm with a | ⟨_, a⟩
        · exact absurd a e
        · exact a
      have e1 : (way n p i).takeWhile (fun x => x != m) = i :: (way n p (p i).toNat).takeWhile (fun x => x != m) := by
        rw [h.way_eq hi, if_neg (by omega), List.takeWhile_cons, if_pos (by simpa using Ne.symm e)]
      rw [e1, List.mem_cons, ih hm' k, h.mem_way hi]
      constructor
      · rintro (a | ⟨a, b, c2⟩)
        · subst a; exact ⟨.inl rfl, hm, Ne.symm e⟩
        · exact ⟨.inr ⟨c, a⟩, b, c2⟩
      · rintro ⟨a | ⟨_, a⟩, b, c2⟩
        · exact .inl a
        · exact .inr ⟨a, b, c2⟩
end

/-! ### Between -/
def meetOf (a b : List Nat) : Int := match a.find? (fun x => b.contains x) with | some x => x | none => -1
def betweenL (a b : List Nat) : List Nat := a.takeWhile (fun x => x != (meetOf a b).toNat) ++ b.takeWhile (fun x => x != (meetOf a b).toNat) ++ [(meetOf a b).toNat]
theorem Tree.way_root {n : Nat} {p : Nat → Int} (h : Tree n p) : ∀ i, i < n → ∃ r, r ∈ way n p i ∧ p r = -1 := by
  refine h.way_ind (fun i hi c => ⟨i, h.way_self hi, c⟩) (fun i hi c hl ih => ?_)
  obtain ⟨r, a, b⟩ := ih
  exact ⟨r, (h.mem_way hi).2 (.inr ⟨c, a⟩), b⟩
theorem Tree.meet {n : Nat} {p : Nat → Int} (h : Tree n p) {i j : Nat} (hi : i < n) (hj : j < n) : ∃ m : Nat, meetOf (way n p i) (way n p j) = m ∧ m < n ∧ m ∈ way n p i ∧ m ∈ way n p j ∧ ∀ y, y ∈ way n p i → y ∈ way n p j → y ∈ way n p m := by
  unfold meetOf
  obtain ⟨r, hr, hpr⟩ := h.way_root i hi
  obtain ⟨r', hr', hpr'⟩ := h.way_root j hj
  have hrr : r = r' := h.one r r' (h.way_lt i hi r hr) (h.way_lt j hj r' hr') hpr hpr'
  subst hrr
  cases hf : (way n p i).find? (fun x => (way n p j).contains x) with
  | none =>
    have := List.find?_eq_none.1 hf r hr
    simp [hr'] at this
  | some m =>
    obtain ⟨hm, l1, bs, hab, hno⟩ := List.find?_eq_some_iff_append.1 hf
    have hmi : m ∈ way n p i := by rw [hab]; simp
    have hmj : m ∈ way n p j := by simpa using hm
    refine ⟨m, rfl, h.way_lt i hi m hmi, hmi, hmj, fun y hy1 hy2 => ?_⟩
    have hmn := h.way_lt i hi m hmi
    rcases h.way_comp i hi m y hmi hy1 with c | c
    · exact c
    · by_cases e : y = m
      · subst e; exact h.way_self hmn
      · have h1 := (h.way_take m i hi hmi y).2 ⟨hy1, c, e⟩
        have h2 : (way n p i).takeWhile (fun x => x != m) = l1.takeWhile (fun x => x != m) := by
          rw [hab]
          have key : ∀ l1 : List Nat, (l1 ++ m :: bs).takeWhile (fun x => x != m) = l1.takeWhile (fun x => x != m) := by
            intro l1
            induction l1 with
            | nil => simp
            | cons a l1 ih =>
              rw [List.cons_append, List.takeWhile_cons, List.takeWhile_cons, ih]
          rw [key]
        rw [h2] at h1
        have h3 : y ∈ l1 := by
          have h4 : y ∈ l1.takeWhile (fun x => x != m) := by simpa using h1
          exact (List.takeWhile_sublist _).subset h4
        have := hno y h3
        simp [hy2] at this
theorem Tree.mem_between {n : Nat} {p : Nat → Int} (h : Tree n p) {i j : Nat} (hi : i < n) (hj : j < n) : ∃ m, m < n ∧ m ∈ way n p i ∧ m ∈ way n p j ∧ (∀ y, y ∈ way n p i → y ∈ way n p j → y ∈ way n p m) ∧
    ∀ k, k ∈ betweenL (way n p i) (way n p j) ↔ (k ∈ way n p i ∨ k ∈ way n p j) ∧ m ∈ way n p k := by
  obtain ⟨m, e, hm, h1, h2, h3⟩ := h.meet hi hj
  refine ⟨m, hm, h1, h2, h3, fun k => ?_⟩
  unfold betweenL
  rw [e, Int.toNat_natCast, List.mem_append, List.mem_append, h.way_take m i hi h1, h.way_take m j hj h2, List.mem_singleton]
  constructor
  · rintro ((⟨a, b, _⟩ | ⟨a, b, _⟩) | rfl)
    · exact ⟨.inl a, b⟩
    · exact ⟨.inr a, b⟩
    · exact ⟨.inl h1, h.way_self hm⟩
  · rintro ⟨a, b⟩
    by_cases c : k = m
    · exact .inr c
    · rcases a with a | a
      · exact .inl (.inl ⟨a, b, c⟩)
      · exact .inl (.inr ⟨a, b, c⟩)
/-- Is what two edges have in common in all edges between them? -/
def betwB (E : List (BitVec 32)) (p : Nat → Int) (i j : Nat) : Bool := (betweenL (way E.length p i) (way E.length p j)).all fun k => subB (ed E i &&& ed E j) (ed E k)
def allBetw (E : List (BitVec 32)) (p : Nat → Int) : Bool := (List.range E.length).all fun i => (List.range i).all fun j => betwB E p i j
theorem way_has {E : List (BitVec 32)} {p : Nat → Int} (h : Tree E.length p) (ho : OneTop E p) {v t : Nat} (ht : t < E.length) (htop : Top E p v t) : ∀ i, i < E.length → hv (ed E i) v → t ∈ way E.length p i ∧ ∀ k, k ∈ way E.length p i → t ∈ way E.length p k → hv (ed E k) v := by
  have stop : ∀ i, i < E.length → hv (ed E i) v → i ≠ t → 0 ≤ p i ∧ hv (ed E (p i).toNat) v := by
    intro i hi hh hne
    have hnt : ¬ Top E p v i := fun c => hne (ho v i t hi ht c htop)
    have h1 := h.rng i hi
    have h2 : p i ≠ -1 := fun c => hnt ⟨hh, .inl c⟩
    exact ⟨by omega, Classical.byContradiction fun c => hnt ⟨hh, .inr c⟩⟩
  have atT : ∀ i, i = t → i < E.length → hv (ed E i) v → t ∈ way E.length p i ∧ ∀ k, k ∈ way E.length p i → t ∈ way E.length p k → hv (ed E k) v := by
    intro i e hi hh
    subst e
    refine ⟨h.way_self hi, fun k hk hk2 => ?_⟩
    rw [h.way_anti hi (h.way_lt i hi k hk) hk hk2]; exact hh
  refine h.way_ind (fun i hi c hh => ?_) (fun i hi c hl ih hh => ?_)
  · by_cases e : i = t
    · exact atT i e hi hh
    · have := (stop i hi hh e).1; omega
  · by_cases e : i = t
    · exact atT i e hi hh
    · obtain ⟨_, h2⟩ := stop i hi hh e
      obtain ⟨a, b⟩ := ih h2
      refine ⟨(h.mem_way hi).2 (.inr ⟨c, a⟩), fun k hk hk2 => ?_⟩
      rcases (h.mem_way hi).1 hk with x | ⟨_, x⟩
      · subst x; exact hh
      · exact b k x hk2
theorem allBetw_iff {E : List (BitVec 32)} {p : Nat → Int} (h : Tree E.length p) : allBetw E p = true ↔ OneTop E p := by
  unfold allBetw betwB
  simp only [List.all_eq_true, List.mem_range]
  constructor
  · intro ha
    have key : ∀ v i j, j < i → i < E.length → Top E p v i → Top E p v j → False := by
      intro v i j hji hi a b
      obtain ⟨m, hm, h1, h2, _, hk⟩ := h.mem_between hi (by omega : j < E.length)
      have has : ∀ k, (k ∈ way E.length p i ∨ k ∈ way E.length p j) → m ∈ way E.length p k → hv (ed E k) v := fun k hk1 hk2 =>
        (subB_iff _ _).1 (ha i hi j hji k ((hk k).2 ⟨hk1, hk2⟩)) v ((hv_and _ _ _).2 ⟨a.1, b.1⟩)
      have leave : ∀ i, i < E.length → Top E p v i → m ∈ way E.length p i → m ≠ i → (∀ k, k ∈ way E.length p i → m ∈ way E.length p k → hv (ed E k) v) → False := by
        intro i hi a h1 hne has
        rcases (h.mem_way hi).1 h1 with x | ⟨x, y⟩
        · exact hne x
        · have hl : (p i).toNat < E.length := by have := (h.rng i hi).2; omega
          have h5 := has (p i).toNat ((h.mem_way hi).2 (.inr ⟨x, h.way_self hl⟩)) y
          rcases a.2 with c | c
          · omega
          · exact c h5
      by_cases e : m = i
      · subst e
        exact leave j (by omega) b h2 (by omega) fun k a b => has k (.inr a) b
      · exact leave i hi a h1 e fun k a b => has k (.inl a) b
    intro v i j hi hj a b
    rcases Nat.lt_trichotomy i j with c | c | c
    · exact absurd (key v j i c hj b a) id
    · exact c
    · exact absurd (key v i j c hi a b) id
  · intro ho i hi j hj k hk
    obtain ⟨m, hm, h1, h2, h3, hmem⟩ := h.mem_between hi (by omega : j < E.length)
    rw [subB_iff]
    intro v hh
    obtain ⟨a, b⟩ := (hv_and _ _ _).1 hh
    obtain ⟨t, ht1, ht2⟩ := exists_top h i hi a
    obtain ⟨c1, c2⟩ := way_has h ho ht1 ht2 i hi a
    obtain ⟨d1, d2⟩ := way_has h ho ht1 ht2 j (by omega) b
    obtain ⟨e1, e2⟩ := (hmem k).1 hk
    have htm := h3 t c1 d1
    rcases e1 with x | x
    · exact c2 k x (h.way_trans k (h.way_lt i hi k x) m t e2 htm)
    · exact d2 k x (h.way_trans k (h.way_lt j (by omega) k x) m t e2 htm)

/-! ### Sizes -/
theorem cntB_or (p q : Nat → Bool) : ∀ n, cntB (fun i => p i || q i) n + cntB (fun i => p i && q i) n = cntB p n + cntB q n
  | 0 => rfl
  | n + 1 => by
    have := cntB_or p q n
    unfold cntB
    cases p n <;> cases q n <;> simp <;> omega
theorem size_or (a b : BitVec 32) : sizeW (a ||| b) + sizeW (a &&& b) = sizeW a + sizeW b := by
  have := cntB_or (fun v => a.getLsbD v) (fun v => b.getLsbD v) 32
  unfold sizeW
  simpa using this
theorem size_zero (a : BitVec 32) : sizeW a = 0 ↔ a = 0#32 := by
  constructor
  · intro h
    rw [eq_zero_iff]
    intro v hh
    have := cntB_pos (p := fun v => a.getLsbD v) (hv_lt hh) hh
    unfold sizeW at h; omega
  · rintro rfl
    exact cntB_none (fun i => by simp) _
theorem size_less (a b : BitVec 32) : sizeW (a &&& ~~~b) + sizeW (a &&& b) = sizeW a := by
  have h := size_or (a &&& ~~~b) (a &&& b)
  have h1 : (a &&& ~~~b) ||| (a &&& b) = a := hv_ext fun v => by
    rw [hv_or, hv_andNot, hv_and]
    constructor
    · rintro (x | x) <;> exact x.1
    · intro x
      by_cases c : hv b v
      · exact .inr ⟨x, c⟩
      · exact .inl ⟨x, c⟩
  have h2 : (a &&& ~~~b) &&& (a &&& b) = 0#32 := by
    rw [eq_zero_iff]
    intro v hh
    obtain ⟨x, y⟩ := (hv_and _ _ _).1 hh
    exact ((hv_andNot _ _ _).1 x).2 ((hv_and _ _ _).1 y).2
  rw [h1, h2, (size_zero _).2 rfl] at h
  omega
/-- The sizes less what each edge has in common with its parent, as far as k. -/
def sumTo (E : List (BitVec 32)) (p : Nat → Int) : Nat → Int
  | 0 => 0
  | k + 1 => (sumTo E p k + sizeW (ed E k)) - if 0 ≤ p k then (sizeW (ed E k &&& ed E (p k).toNat) : Int) else 0
theorem sumTo_enters (E : List (BitVec 32)) (p : Nat → Int) (k : Nat) : sumTo E p (k + 1) = sumTo E p k + sizeW (enters E p k) := by
  unfold enters
  show (sumTo E p k + sizeW (ed E k)) - _ = _
  split
  · have := size_less (ed E k) (ed E (p k).toNat); omega
  · omega
theorem sumTo_seen (E : List (BitVec 32)) (p : Nat → Int) : ∀ k, (sizeW (seenTo E p k) : Int) ≤ sumTo E p k ∧ ((sizeW (seenTo E p k) : Int) = sumTo E p k ↔ oneTo E p k = true)
  | 0 => ⟨by simp [seenTo, sumTo, (size_zero _).2 rfl], by simp [seenTo, sumTo, (size_zero _).2 rfl, oneTo]⟩
  | k + 1 => by
    obtain ⟨h1, h2⟩ := sumTo_seen E p k
    have h3 := size_or (seenTo E p k) (enters E p k)
    have h4 : seenTo E p (k + 1) = seenTo E p k ||| enters E p k := rfl
    have h5 := size_zero (seenTo E p k &&& enters E p k)
    rw [sumTo_enters, h4, oneTo_succ, Bool.and_eq_true, beq_iff_eq, ← h5, ← h2]
    omega
def orTo (E : List (BitVec 32)) : Nat → BitVec 32
  | 0 => 0#32
  | k + 1 => orTo E k ||| ed E k
theorem hv_orTo (E : List (BitVec 32)) (v : Nat) : ∀ k, hv (orTo E k) v ↔ ∃ i, i < k ∧ hv (ed E i) v
  | 0 => by simp [orTo, hv_zero]
  | k + 1 => by
    unfold orTo
    rw [hv_or, hv_orTo E v k]
    constructor
    · rintro (⟨i, hi, h⟩ | h)
      · exact ⟨i, by omega, h⟩
      · exact ⟨k, by omega, h⟩
    · rintro ⟨i, hi, h⟩
      rcases Nat.lt_or_ge i k with c | c
      · exact .inl ⟨i, c, h⟩
      · obtain rfl : i = k := by omega
        exact .inr h
theorem seen_all {E : List (BitVec 32)} {p : Nat → Int} (h : Tree E.length p) : seenTo E p E.length = orTo E E.length := hv_ext fun v => by
  rw [hv_seen, hv_orTo]
  constructor
  · rintro ⟨i, hi, a⟩
    exact ⟨i, hi, ((hv_enters E (h.rng i hi).1 v).1 a).1⟩
  · rintro ⟨i, hi, a⟩
    obtain ⟨t, ht, b⟩ := exists_top h i hi a
    exact ⟨t, ht, (hv_enters E (h.rng t ht).1 v).2 b⟩
/-- A TREE IS A JOIN TREE JUST IF THE SIZES ADD UP. -/
theorem sum_iff {E : List (BitVec 32)} {p : Nat → Int} (h : Tree E.length p) : (sumTo E p E.length = sizeW (orTo E E.length)) ↔ oneTo E p E.length = true := by
  rw [← (sumTo_seen E p E.length).2, seen_all h]
  exact ⟨fun e => e.symm, fun e => e.symm⟩
end Go.Proofs.Ytkenbmelhfhidaa
