/- Trees and join trees as the functions look for them: truth values that the walks reckon. No program in sight. -/
import Derived.Test.YtkenbmelhfhidaaJtLaw2
namespace Go.Proofs.Ytkenbmelhfhidaa

/-- The i-th parent. -/
def pz (P : List Int) (i : Nat) : Int := P.getD i 0
theorem pz_eq (P : List Int) (i : Nat) (h : i < P.length) : P[i] = pz P i := by simp [pz, h]
/-- Is it in range? -/
def rngB (n : Nat) (x : Int) : Bool := decide (-1 ≤ x) && decide (x < n)
/-- Is the list of parents a tree? -/
def treeB (P : List Int) : Bool :=
  decide (P.length ≤ 7) && ((List.range P.length).all fun i => rngB P.length (pz P i)) && ((List.range P.length).all fun (i : Nat) => up (pz P) P.length (i : Int) == -1) && (cntB (fun i => pz P i == -1) P.length == min 1 P.length)
theorem cntB_two {p : Nat → Bool} {i j : Nat} (hij : i < j) : ∀ {n : Nat}, j < n → p i = true → p j = true → 2 ≤ cntB p n
  | n + 1, hj, h1, h2 => by
    unfold cntB
    by_cases e : n = j
    · subst e
      have : 1 ≤ cntB p n := by
        have := cntB_strict (p := fun _ => false) (q := p) h1 rfl (n := n) (fun _ _ h => by cases h) hij
        omega
      rw [h2]; simp; omega
    · have := cntB_two hij (n := n) (by omega) h1 h2
      omega
theorem cntB_one {p : Nat → Bool} : ∀ {n : Nat}, (∀ i j, i < n → j < n → p i = true → p j = true → i = j) → cntB p n ≤ 1
  | 0, _ => Nat.zero_le _
  | n + 1, h => by
    unfold cntB
    have h1 := cntB_one (p := p) (n := n) fun i j hi hj => h i j (by omega) (by omega)
    cases hp : p n
    · simpa using h1
    · have : cntB p n = 0 := by
        have h2 : cntB p n = cntB (fun _ => false) n := cntB_congr fun i hi => by
          cases hi2 : p i
          · rfl
          · have := h i n (by omega) (by omega) hi2 hp; omega
        rw [h2]
        exact cntB_none (fun _ => rfl) n
      rw [this]; simp
theorem cntB_pos {p : Nat → Bool} {n j : Nat} (hj : j < n) (h : p j = true) : 1 ≤ cntB p n := by
  have := cntB_strict (p := fun _ => false) (q := p) h rfl (n := n) (fun _ _ h => by cases h) hj
  omega
theorem treeB_iff (P : List Int) : treeB P = true ↔ P.length ≤ 7 ∧ Tree P.length (pz P) := by
  unfold treeB
  simp only [Bool.and_eq_true, decide_eq_true_eq, List.all_eq_true, List.mem_range, beq_iff_eq, rngB]
  constructor
  · rintro ⟨⟨⟨h1, h2⟩, h3⟩, h4⟩
    refine ⟨h1, tree_of_reach h2 (fun i j hi hj a b => ?_) fun i hi => by rw [h3 i hi]; omega⟩
    rcases Nat.lt_trichotomy i j with c | c | c
    · have := cntB_two (p := fun i => pz P i == -1) c hj (by simpa using a) (by simpa using b); omega
    · exact c
    · have := cntB_two (p := fun i => pz P i == -1) c hi (by simpa using b) (by simpa using a); omega
  · rintro ⟨h1, h2⟩
    refine ⟨⟨⟨h1, h2.rng⟩, h2.reach⟩, ?_⟩
    have h3 := cntB_one (p := fun i => pz P i == -1) (n := P.length) fun i j hi hj a b => h2.one i j hi hj (by simpa using a) (by simpa using b)
    rcases Nat.eq_zero_or_pos P.length with c | c
    · rw [c]; rfl
    · obtain ⟨r, hr, hp⟩ := h2.root c
      have := cntB_pos (p := fun i => pz P i == -1) hr (by simpa using hp)
      omega

/-! ### Join trees: the vertices at which a tree is entered -/
def enters (E : List (BitVec 32)) (p : Nat → Int) (i : Nat) : BitVec 32 := if 0 ≤ p i then ed E i &&& ~~~ed E (p i).toNat else ed E i
def seenTo (E : List (BitVec 32)) (p : Nat → Int) : Nat → BitVec 32
  | 0 => 0#32
  | k + 1 => seenTo E p k ||| enters E p k
theorem hv_enters (E : List (BitVec 32)) {p : Nat → Int} {i : Nat} (h : -1 ≤ p i) (v : Nat) : hv (enters E p i) v ↔ Top E p v i := by
  unfold enters Top
  split
  · rw [hv_andNot]
    constructor
    · rintro ⟨a, b⟩; exact ⟨a, .inr b⟩
    · rintro ⟨a, b | b⟩
      · omega
      · exact ⟨a, b⟩
  · constructor
    · intro a; exact ⟨a, .inl (by omega)⟩
    · exact fun a => a.1
theorem hv_seen (E : List (BitVec 32)) (p : Nat → Int) (v : Nat) : ∀ k, hv (seenTo E p k) v ↔ ∃ i, i < k ∧ hv (enters E p i) v
  | 0 => by simp [seenTo, hv_zero]
  | k + 1 => by
    unfold seenTo
    rw [hv_or, hv_seen E p v k]
    constructor
    · rintro (⟨i, hi, h⟩ | h)
      · exact ⟨i, by omega, h⟩
      · exact ⟨k, by omega, h⟩
    · rintro ⟨i, hi, h⟩
      rcases Nat.lt_or_ge i k with c | c
      · exact .inl ⟨i, c, h⟩
      · obtain rfl : i = k := by omega
        exact .inr h
/-- Is each vertex entered at one place at most, as far as k? -/
def oneTo (E : List (BitVec 32)) (p : Nat → Int) (k : Nat) : Bool := (List.range k).all fun i => seenTo E p i &&& enters E p i == 0#32
theorem oneTo_succ (E : List (BitVec 32)) (p : Nat → Int) (k : Nat) : oneTo E p (k + 1) = (oneTo E p k && (seenTo E p k &&& enters E p k == 0#32)) := by
  unfold oneTo; rw [List.range_succ]; simp
theorem oneTo_false {E : List (BitVec 32)} {p : Nat → Int} {k n : Nat} (hk : k < n) (h : (seenTo E p k &&& enters E p k == 0#32) = false) : oneTo E p n = false := by
  unfold oneTo
  rw [List.all_eq_false]
  exact ⟨k, List.mem_range.2 hk, by simpa using h⟩
theorem oneTo_iff {E : List (BitVec 32)} {p : Nat → Int} (h : ∀ i, i < E.length → -1 ≤ p i) : oneTo E p E.length = true ↔ OneTop E p := by
  unfold oneTo
  rw [List.all_eq_true]
  constructor
  · intro ha v i j hi hj a b
    have key : ∀ i j, i < j → j < E.length → Top E p v i → Top E p v j → False := by
      intro i j hij hj a b
      have h1 := ha j (List.mem_range.2 hj)
      rw [beq_iff_eq, eq_zero_iff] at h1
      exact h1 v ((hv_and _ _ _).2 ⟨(hv_seen E p v j).2 ⟨i, hij, (hv_enters E (h i (by omega)) v).2 a⟩, (hv_enters E (h j hj) v).2 b⟩)
    rcases Nat.lt_trichotomy i j with c | c | c
    · exact absurd (key i j c hj a b) id
    · exact c
    · exact absurd (key j i c hi b a) id
  · intro ho k hk
    have hk := List.mem_range.1 hk
    rw [beq_iff_eq, eq_zero_iff]
    intro v hh
    obtain ⟨h1, h2⟩ := (hv_and _ _ _).1 hh
    obtain ⟨i, hi, h3⟩ := (hv_seen E p v k).1 h1
    have := ho v i k (by omega) hk ((hv_enters E (h i (by omega)) v).1 h3) ((hv_enters E (h k hk) v).1 h2)
    omega
/-- Is it a join tree of the graph? -/
def checkB (V : Int) (E : List (BitVec 32)) (P : List Int) : Bool := validB V E && (P.length == E.length) && treeB P && oneTo E (pz P) E.length
theorem checkB_iff (V : Int) (E : List (BitVec 32)) (P : List Int) : checkB V E P = true ↔ validB V E = true ∧ P.length = E.length ∧ JT E (pz P) := by
  unfold checkB
  simp only [Bool.and_eq_true, beq_iff_eq]
  constructor
  · rintro ⟨⟨⟨h1, h2⟩, h3⟩, h4⟩
    obtain ⟨_, h5⟩ := (treeB_iff P).1 h3
    rw [h2] at h5
    exact ⟨h1, h2, h5, (oneTo_iff fun i hi => (h5.rng i hi).1).1 h4⟩
  · rintro ⟨h1, h2, h3, h4⟩
    have h7 := (validB_of h1).2.2.1
    refine ⟨⟨⟨h1, h2⟩, (treeB_iff P).2 ⟨by omega, by rw [h2]; exact h3⟩⟩, (oneTo_iff fun i hi => (h3.rng i hi).1).2 h4⟩

/-! ### All trees -/
def updI (f : Nat → Int) (i : Nat) (x : Int) : Nat → Int := fun j => if j = i then x else f j
/-- How many edges are topmost for a vertex; is there one that has it? -/
def topB (E : List (BitVec 32)) (p : Nat → Int) (v : Nat) (i : Nat) : Bool := (ed E i).getLsbD v && (decide (p i < 0) || !(ed E (p i).toNat).getLsbD v)
def joinedB (V : Nat) (E : List (BitVec 32)) (p : Nat → Int) : Bool :=
  (List.range V).all fun v => !(cntB (fun i => (ed E i).getLsbD v) E.length != 0) || (cntB (topB E p v) E.length == 1)
def rootedB (n : Nat) (p : Nat → Int) : Bool := (List.range n).all fun (i : Nat) => decide (up p n (i : Int) < 0)
def growB (V : Nat) (E : List (BitVec 32)) : Nat → (Nat → Int) → Bool
  | 0, p => rootedB E.length p && joinedB V E p
  | m + 1, p => (List.range E.length).any fun q => (q != E.length - (m + 1)) && growB V E m (updI p (E.length - (m + 1)) q)
def existsB (V : Nat) (E : List (BitVec 32)) : Bool := E.isEmpty || growB V E (E.length - 1) (updI (fun _ => 0) 0 (-1))
theorem joinedB_congr {V : Nat} {E : List (BitVec 32)} {p q : Nat → Int} (h : ∀ i, i < E.length → p i = q i) : joinedB V E p = joinedB V E q := by
  unfold joinedB
  congr 1
  funext v
  congr 2
  exact cntB_congr fun i hi => by unfold topB; rw [h i hi]
theorem up_congr {n : Nat} {p q : Nat → Int} (h : ∀ i, i < n → p i = q i) (hr : ∀ i, i < n → p i < n) : ∀ (k : Nat) (i : Int), i < n → up p k i = up q k i
  | 0, _, _ => rfl
  | k + 1, i, hi => by
    unfold up
    split
    · rfl
    · rw [← h i.toNat (by omega)]
      exact up_congr h hr k _ (hr _ (by omega))
/-- Parents told from m on down: what growB finds. -/
theorem growB_iff {V : Nat} {E : List (BitVec 32)} : ∀ (m : Nat), m ≤ E.length → ∀ (p : Nat → Int), growB V E m p = true ↔
    ∃ q : Nat → Int, (∀ i, i < E.length - m → q i = p i) ∧ (∀ i, E.length - m ≤ i → i < E.length → 0 ≤ q i ∧ q i < E.length ∧ q i ≠ i) ∧ (∀ i, E.length ≤ i → q i = p i) ∧ rootedB E.length q = true ∧ joinedB V E q = true
  | 0, _, p => by
    unfold growB
    rw [Bool.and_eq_true]
    constructor
    · rintro ⟨a, b⟩; exact ⟨p, fun _ _ => rfl, fun i h1 h2 => by omega, fun _ _ => rfl, a, b⟩
    · rintro ⟨q, h1, _, h2, a, b⟩
      have : q = p := funext fun i => by
        rcases Nat.lt_or_ge i E.length with c | c
        · exact h1 i (by omega)
        · exact h2 i c
      subst this; exact ⟨a, b⟩
  | m + 1, hm, p => by
    unfold growB
    rw [List.any_eq_true]
    constructor
    · rintro ⟨x, hx, h⟩
      rw [Bool.and_eq_true, bne_iff_ne] at h
      have hx := List.mem_range.1 hx
      obtain ⟨q, h1, h2, h3, h4⟩ := (growB_iff m (by omega) _).1 h.2
      refine ⟨q, fun i hi => ?_, fun i hi1 hi2 => ?_, fun i hi => ?_, h4⟩
      · rw [h1 i (by omega)]; unfold updI; rw [if_neg (by omega)]
      · by_cases e : i = E.length - (m + 1)
        · rw [h1 i (by omega)]; unfold updI; rw [if_pos e]
          have := h.1; omega
        · exact h2 i (by omega) hi2
      · rw [h3 i hi]; unfold updI; rw [if_neg (by omega)]
    · rintro ⟨q, h1, h2, h3, h4⟩
      obtain ⟨a, b, c⟩ := h2 (E.length - (m + 1)) (by omega) (by omega)
      refine ⟨(q (E.length - (m + 1))).toNat, List.mem_range.2 (by omega), ?_⟩
      rw [Bool.and_eq_true, bne_iff_ne]
      refine ⟨by omega, (growB_iff m (by omega) _).2 ⟨q, fun i hi => ?_, fun i hi1 hi2 => h2 i (by omega) hi2, fun i hi => ?_, h4⟩⟩
      · unfold updI
        split
        · next e => subst e; omega
        · exact h1 i (by omega)
      · unfold updI; rw [if_neg (by omega)]; exact h3 i hi
theorem joined_one {V : Nat} {E : List (BitVec 32)} {p : Nat → Int} (ht : Tree E.length p) (hV : ∀ i v, i < E.length → hv (ed E i) v → v < V) : joinedB V E p = true ↔ OneTop E p := by
  have tb : ∀ v i, i < E.length → (topB E p v i = true ↔ Top E p v i) := by
    intro v i hi
    have := (ht.rng i hi).1
    unfold topB Top hv
    rw [Bool.and_eq_true, Bool.or_eq_true, decide_eq_true_eq, Bool.not_eq_true', Bool.not_eq_true]
    constructor
    · rintro ⟨a, b | b⟩
      · exact ⟨a, .inl (by omega)⟩
      · exact ⟨a, .inr b⟩
    · rintro ⟨a, b | b⟩
      · exact ⟨a, .inl (by omega)⟩
      · exact ⟨a, .inr b⟩
  unfold joinedB
  rw [List.all_eq_true]
  constructor
  · intro h v i j hi hj a b
    have hvV := hV i v hi a.1
    have h1 := h v (List.mem_range.2 hvV)
    have h2 := cntB_pos (p := fun i => (ed E i).getLsbD v) hi a.1
    have h3 : cntB (topB E p v) E.length = 1 := by
      rw [Bool.or_eq_true, beq_iff_eq] at h1
      rcases h1 with c | c
      · simp at c; omega
      · exact c
    rcases Nat.lt_trichotomy i j with c | c | c
    · have := cntB_two c hj ((tb v i hi).2 a) ((tb v j hj).2 b); omega
    · exact c
    · have := cntB_two c hi ((tb v j hj).2 b) ((tb v i hi).2 a); omega
  · intro ho v _
    rw [Bool.or_eq_true, beq_iff_eq]
    by_cases c : cntB (fun i => (ed E i).getLsbD v) E.length = 0
    · left; simp [c]
    · right
      obtain ⟨i, hi, hh⟩ : ∃ i, i < E.length ∧ hv (ed E i) v := by
        apply Classical.byContradiction
        intro hc
        apply c
        have : cntB (fun i => (ed E i).getLsbD v) E.length = cntB (fun _ => false) E.length := cntB_congr fun i hi => by
          cases hb : (ed E i).getLsbD v
          · rfl
          · exact absurd ⟨i, hi, hb⟩ hc
        rw [this]; exact cntB_none (fun _ => rfl) _
      obtain ⟨t, ht1, ht2⟩ := exists_top ht i hi hh
      have h1 := cntB_pos ht1 ((tb v t ht1).2 ht2)
      have h2 := cntB_one (p := topB E p v) (n := E.length) fun i j hi hj a b => ho v i j hi hj ((tb v i hi).1 a) ((tb v j hj).1 b)
      omega
/-- A LOOK THROUGH ALL TREES FINDS A JOIN TREE JUST IF THERE IS ONE. -/
theorem existsB_iff {V : Nat} {E : List (BitVec 32)} (hV : ∀ i v, i < E.length → hv (ed E i) v → v < V) : existsB V E = true ↔ ∃ p, JT E p := by
  unfold existsB
  rw [Bool.or_eq_true]
  rcases Nat.eq_zero_or_pos E.length with h0 | h0
  · have hE : E = [] := List.eq_nil_of_length_eq_zero h0
    subst hE
    refine ⟨fun _ => ⟨fun _ => -1, ⟨fun i hi => absurd hi (Nat.not_lt_zero i), ⟨fun _ => 0, fun i hi => absurd hi (Nat.not_lt_zero i)⟩, fun i j hi => absurd hi (Nat.not_lt_zero i)⟩, fun v i j hi => absurd hi (Nat.not_lt_zero i)⟩, fun _ => .inl rfl⟩
  · have hne : E.isEmpty = false := by cases E with | nil => cases h0 | cons => rfl
    rw [hne, growB_iff _ (by omega)]
    constructor
    · rintro (h | ⟨q, h1, h2, _, h3, h4⟩)
      · cases h
      · have hq0 : q 0 = -1 := by rw [h1 0 (by omega)]; rfl
        have rng : ∀ i, i < E.length → -1 ≤ q i ∧ q i < E.length := by
          intro i hi
          rcases Nat.eq_zero_or_pos i with c | c
          · subst c; rw [hq0]; omega
          · have := h2 i (by omega) hi; omega
        have ht : Tree E.length q := by
          refine tree_of_reach rng (fun i j hi hj a b => ?_) fun i hi => ?_
          · have z : ∀ i, i < E.length → q i = -1 → i = 0 := by
              intro i hi a
              rcases Nat.eq_zero_or_pos i with c | c
              · exact c
              · have := h2 i (by omega) hi; omega
            rw [z i hi a, z j hj b]
          · unfold rootedB at h3
            rw [List.all_eq_true] at h3
            simpa using h3 i (List.mem_range.2 hi)
        exact ⟨q, ht, (joined_one ht hV).1 h4⟩
    · rintro ⟨p, hp⟩
      right
      obtain ⟨q, ⟨ht, ho⟩, hq0⟩ := jt_root hp 0 h0
      let q' : Nat → Int := fun i => if i < E.length then q i else 0
      have hqq : ∀ i, i < E.length → q i = q' i := fun i hi => by show _ = if _ then _ else _; rw [if_pos hi]
      refine ⟨q', fun i hi => ?_, fun i h1 h2 => ?_, fun i hi => ?_, ?_, ?_⟩
      · obtain rfl : i = 0 := by omega
        rw [← hqq 0 h0, hq0]; rfl
      · rw [← hqq i h2]
        have h3 := ht.rng i h2
        have h4 : q i ≠ -1 := fun e => by have := ht.one i 0 h2 h0 e hq0; omega
        refine ⟨by omega, h3.2, fun e => ?_⟩
        obtain ⟨d, hd⟩ := ht.rank
        have := hd i h2 (by omega)
        rw [e, Int.toNat_natCast] at this; omega
      · show (if i < E.length then q i else 0) = updI _ 0 (-1) i
        rw [if_neg (by omega)]; unfold updI; rw [if_neg (by omega)]
      · unfold rootedB
        rw [List.all_eq_true]
        intro i hi
        have hi := List.mem_range.1 hi
        rw [← up_congr hqq (fun i hi => (ht.rng i hi).2) E.length (i : Int) (by omega), ht.reach i hi]
        rfl
      · rw [← joinedB_congr hqq]; exact (joined_one ht hV).2 ho
end Go.Proofs.Ytkenbmelhfhidaa
