/- The plain law of removals as the program makes them: seven sets, which are there; the next step; the run. No program in sight. -/
import Derived.Test.YtkenbmelhfhidaaEarLaw
namespace Go.Proofs.Ytkenbmelhfhidaa

def updS (S : Nat → BitVec 32) (k : Nat) (x : BitVec 32) : Nat → BitVec 32 := fun i => if i = k then x else S i
def updT (T : Nat → Bool) (k : Nat) (b : Bool) : Nat → Bool := fun i => if i = k then b else T i
/-- The kind of step that takes i into j. -/
def kindZ (S : Nat → BitVec 32) (T : Nat → Bool) (i j : Nat) : Int :=
  if i = j ∨ T i = false ∨ T j = false then 0 else if S i = S j then 2 else if subB (S i) (S j) = true then 3 else 0
/-- What a Trim would cut, as far as k. -/
def loneTo (S : Nat → BitVec 32) (T : Nat → Bool) (keep : BitVec 32) (i : Nat) : Nat → BitVec 32
  | 0 => S i &&& ~~~keep
  | k + 1 => if k ≠ i ∧ T k = true then loneTo S T keep i k &&& ~~~S k else loneTo S T keep i k
theorem loneTo_t {S : Nat → BitVec 32} {T : Nat → Bool} {keep : BitVec 32} {i k : Nat} (h1 : k ≠ i) (h2 : T k = true) : loneTo S T keep i (k + 1) = loneTo S T keep i k &&& ~~~S k := by
  show (if _ then _ else _) = _; rw [if_pos ⟨h1, h2⟩]
theorem loneTo_f {S : Nat → BitVec 32} {T : Nat → Bool} {keep : BitVec 32} {i k : Nat} (h : ¬ (k ≠ i ∧ T k = true)) : loneTo S T keep i (k + 1) = loneTo S T keep i k := by
  show (if _ then _ else _) = _; rw [if_neg h]
theorem hv_lone (S : Nat → BitVec 32) (T : Nat → Bool) (keep : BitVec 32) (i v : Nat) : ∀ k, hv (loneTo S T keep i k) v ↔ hv (S i) v ∧ ¬ hv keep v ∧ ∀ j, j < k → j ≠ i → T j = true → ¬ hv (S j) v
  | 0 => by
    unfold loneTo
    rw [hv_andNot]
    exact ⟨fun ⟨a, b⟩ => ⟨a, b, fun j hj => by omega⟩, fun ⟨a, b, _⟩ => ⟨a, b⟩⟩
  | k + 1 => by
    have ih := hv_lone S T keep i v k
    by_cases c : k ≠ i ∧ T k = true
    · rw [loneTo_t c.1 c.2, hv_andNot, ih]
      constructor
      · rintro ⟨⟨a, b, d⟩, e⟩
        refine ⟨a, b, fun j hj => ?_⟩
        rcases Nat.lt_or_ge j k with x | x
        · exact d j x
        · obtain rfl : j = k := by omega
          exact fun _ _ => e
      · rintro ⟨a, b, d⟩
        exact ⟨⟨a, b, fun j hj => d j (by omega)⟩, d k (by omega) c.1 c.2⟩
    · rw [loneTo_f c, ih]
      constructor
      · rintro ⟨a, b, d⟩
        refine ⟨a, b, fun j hj h1 h2 => ?_⟩
        rcases Nat.lt_or_ge j k with x | x
        · exact d j x h1 h2
        · obtain rfl : j = k := by omega
          exact absurd ⟨h1, h2⟩ c
      · rintro ⟨a, b, d⟩
        exact ⟨a, b, fun j hj => d j (by omega)⟩

/-- The edges that are there. -/
def leftOf (S : Nat → BitVec 32) (T : Nat → Bool) (i : Nat) : Lt := if T i = true then [(i, S i)] else []
def lefts (S : Nat → BitVec 32) (T : Nat → Bool) (n : Nat) : Lt := (List.range n).flatMap (leftOf S T)
theorem lefts_succ (S : Nat → BitVec 32) (T : Nat → Bool) (n : Nat) : lefts S T (n + 1) = lefts S T n ++ leftOf S T n := by
  unfold lefts; rw [List.range_succ, List.flatMap_append]; simp
theorem mem_lefts {S : Nat → BitVec 32} {T : Nat → Bool} {n : Nat} {x : Nat × BitVec 32} : x ∈ lefts S T n ↔ x.1 < n ∧ T x.1 = true ∧ x.2 = S x.1 := by
  unfold lefts leftOf
  rw [List.mem_flatMap]
  constructor
  · rintro ⟨i, hi, h⟩
    split at h
    · rw [List.mem_singleton.1 h]; exact ⟨List.mem_range.1 hi, ‹_›, rfl⟩
    · cases h
  · rintro ⟨h1, h2, h3⟩
    exact ⟨x.1, List.mem_range.2 h1, by rw [if_pos h2, ← h3]; exact List.mem_singleton.2 rfl⟩
theorem srt_lefts (S : Nat → BitVec 32) (T : Nat → Bool) : ∀ n, Srt (lefts S T n)
  | 0 => List.Pairwise.nil
  | n + 1 => by
    rw [lefts_succ]
    refine List.pairwise_append.2 ⟨srt_lefts S T n, ?_, fun x hx y hy => ?_⟩
    · unfold leftOf
      split
      · exact List.pairwise_singleton _ _
      · exact List.Pairwise.nil
    · have h1 := (mem_lefts.1 hx).1
      unfold leftOf at hy
      split at hy
      · rw [List.mem_singleton.1 hy]; exact h1
      · cases hy
theorem flatMap_lefts {α : Type} (S : Nat → BitVec 32) (T : Nat → Bool) (n : Nat) (f : Nat × BitVec 32 → List α) : (lefts S T n).flatMap f = (List.range n).flatMap fun i => if T i = true then f (i, S i) else [] := by
  unfold lefts
  rw [List.flatMap_assoc]
  congr 1
  funext i
  unfold leftOf
  split <;> simp
theorem lone_cut {S : Nat → BitVec 32} {T : Nat → Bool} {n i : Nat} (keep : BitVec 32) : loneTo S T keep i n = cutE (lefts S T n) keep (i, S i) := hv_ext fun v => by
  rw [hv_lone, hv_cut]
  constructor
  · rintro ⟨a, b, c⟩
    refine ⟨a, b, fun y hy h1 h2 => ?_⟩
    obtain ⟨e1, e2, e3⟩ := mem_lefts.1 hy
    exact c y.1 e1 h1 e2 (by rw [← e3]; exact h2)
  · rintro ⟨a, b, c⟩
    exact ⟨a, b, fun j hj h1 h2 => c (j, S j) (mem_lefts.2 ⟨hj, h2, rfl⟩) h1⟩

/-! ### The first step -/
theorem range_nil {α : Type} {f : Nat → List α} : ∀ {n : Nat}, (∀ i, i < n → f i = []) → (List.range n).flatMap f = []
  | 0, _ => rfl
  | n + 1, h => by rw [List.range_succ, List.flatMap_append, range_nil fun i hi => h i (by omega)]; simp [h n]
theorem range_head {α : Type} {f : Nat → List α} {k : Nat} {x : α} {r : List α} (h : ∀ i, i < k → f i = []) (e : f k = x :: r) : ∀ {n : Nat}, k < n → ∃ r', (List.range n).flatMap f = x :: r'
  | n + 1, hk => by
    rw [List.range_succ, List.flatMap_append]
    rcases Nat.lt_or_ge k n with c | c
    · obtain ⟨r', hr⟩ := range_head h e c
      exact ⟨_, by rw [hr]; rfl⟩
    · obtain rfl : k = n := by omega
      rw [range_nil h]
      exact ⟨r, by simp [e]⟩
section
variable {S : Nat → BitVec 32} {T : Nat → Bool} {n : Nat} {keep : BitVec 32}
/-- The next step; none if there is none. -/
def nextS (S : Nat → BitVec 32) (T : Nat → Bool) (n : Nat) (keep : BitVec 32) : Option Stp := (stepsE (lefts S T n) keep).head?
def noTrim (S : Nat → BitVec 32) (T : Nat → Bool) (n : Nat) (keep : BitVec 32) (k : Nat) : Prop := ∀ i, i < k → T i = true → loneTo S T keep i n = 0#32
def noSame (S : Nat → BitVec 32) (T : Nat → Bool) (n a : Nat) : Prop := ∀ i, a < i → i < n → kindZ S T i a ≠ 2
def noUnder (S : Nat → BitVec 32) (T : Nat → Bool) (n i : Nat) : Prop := ∀ j, j < n → kindZ S T i j ≠ 3
theorem kind_two {i j : Nat} (h1 : i ≠ j) (h2 : T i = true) (h3 : T j = true) (h4 : S i = S j) : kindZ S T i j = 2 := by
  unfold kindZ; rw [if_neg (by simp [h1, h2, h3]), if_pos h4]
theorem kind_three {i j : Nat} (h1 : i ≠ j) (h2 : T i = true) (h3 : T j = true) (h4 : S i ≠ S j) (h5 : subB (S i) (S j) = true) : kindZ S T i j = 3 := by
  unfold kindZ; rw [if_neg (by simp [h1, h2, h3]), if_neg h4, if_pos h5]
theorem kind_ne {i j : Nat} (h : kindZ S T i j ≠ 0) : i ≠ j ∧ T i = true ∧ T j = true := by
  unfold kindZ at h
  split at h
  · exact absurd rfl h
  · next c =>
    refine ⟨fun e => c (.inl e), ?_, ?_⟩
    · cases hT : T i
      · exact absurd (.inr (.inl hT)) c
      · rfl
    · cases hT : T j
      · exact absurd (.inr (.inr hT)) c
      · rfl
theorem kind_is2 {i j : Nat} (h : kindZ S T i j = 2) : i ≠ j ∧ T i = true ∧ T j = true ∧ S i = S j := by
  obtain ⟨a, b, c⟩ := kind_ne (S := S) (T := T) (i := i) (j := j) (by omega)
  refine ⟨a, b, c, ?_⟩
  unfold kindZ at h
  rw [if_neg (by simp [a, b, c])] at h
  split at h
  · assumption
  · split at h <;> omega
theorem kind_is3 {i j : Nat} (h : kindZ S T i j = 3) : i ≠ j ∧ T i = true ∧ T j = true ∧ S i ≠ S j ∧ subB (S i) (S j) = true := by
  obtain ⟨a, b, c⟩ := kind_ne (S := S) (T := T) (i := i) (j := j) (by omega)
  refine ⟨a, b, c, ?_⟩
  unfold kindZ at h
  rw [if_neg (by simp [a, b, c])] at h
  split at h
  · omega
  · next d =>
    split at h
    · exact ⟨d, ‹_›⟩
    · omega
theorem steps_eq : stepsE (lefts S T n) keep =
    ((List.range n).flatMap (fun i => if T i = true then trimOf (lefts S T n) keep (i, S i) else []) ++
     (List.range n).flatMap (fun a => if T a = true then (List.range n).flatMap (fun i => if T i = true then sameOf (a, S a) (i, S i) else []) else [])) ++
    ((List.range n).flatMap (fun i => if T i = true then (List.range n).flatMap (fun j => if T j = true then underOf (i, S i) (j, S j) else []) else []) ++
     (List.range n).flatMap (fun i => if T i = true then (List.range n).flatMap (fun j => if T j = true then backOf (i, S i) (j, S j) else []) else [])) := by
  unfold stepsE
  rw [flatMap_lefts, flatMap_lefts, flatMap_lefts, flatMap_lefts]
  simp only [flatMap_lefts]
theorem trims_nil {k : Nat} (h : noTrim S T n keep k) : ∀ i, i < k → (if T i = true then trimOf (lefts S T n) keep (i, S i) else []) = [] := by
  intro i hi
  split
  · next c => unfold trimOf; rw [if_pos]; rw [← lone_cut]; exact h i hi c
  · rfl
theorem sames_nil {a m : Nat} (h : ∀ i, a < i → i < m → kindZ S T i a ≠ 2) (ha : T a = true) : ∀ i, i < m → (if T i = true then sameOf (a, S a) (i, S i) else []) = [] := by
  intro i hi
  split
  · next c =>
    unfold sameOf
    rw [if_neg]
    rintro ⟨h1, h2⟩
    exact h i h1 hi (kind_two (by have : a < i := h1; omega) c ha (Eq.symm h2))
  · rfl
theorem unders_nil {i m : Nat} (h : ∀ j, j < m → kindZ S T i j ≠ 3) (hi : T i = true) : ∀ j, j < m → (if T j = true then underOf (i, S i) (j, S j) else []) = [] := by
  intro j hj
  split
  · next c =>
    unfold underOf
    rw [if_neg]
    rintro ⟨h1, h2⟩
    exact h j hj (kind_three (fun e => h1 (by rw [e])) hi c h1 h2)
  · rfl
theorem same_rows {a : Nat} (h : ∀ b, b < a → noSame S T n b) : ∀ b, b < a → (if T b = true then (List.range n).flatMap (fun i => if T i = true then sameOf (b, S b) (i, S i) else []) else []) = [] := by
  intro b hb
  split
  · next c => exact range_nil (sames_nil (h b hb) c)
  · rfl
theorem under_rows {a : Nat} (h : ∀ b, b < a → noUnder S T n b) : ∀ b, b < a → (if T b = true then (List.range n).flatMap (fun j => if T j = true then underOf (b, S b) (j, S j) else []) else []) = [] := by
  intro b hb
  split
  · next c => exact range_nil (unders_nil (h b hb) c)
  · rfl
theorem next_trim {k : Nat} (h : noTrim S T n keep k) (hk : k < n) (hT : T k = true) (hc : loneTo S T keep k n ≠ 0#32) : nextS S T n keep = some ⟨1, k, 0, loneTo S T keep k n⟩ := by
  unfold nextS
  rw [steps_eq]
  obtain ⟨r, e⟩ := range_head (trims_nil h) (x := (⟨1, k, 0, loneTo S T keep k n⟩ : Stp)) (r := []) (by rw [if_pos hT]; unfold trimOf; rw [← lone_cut, if_neg hc]) hk
  rw [e]; rfl
theorem next_same {a i : Nat} (h1 : noTrim S T n keep n) (h2 : ∀ b, b < a → noSame S T n b) (h3 : ∀ m, a < m → m < i → kindZ S T m a ≠ 2) (hai : a < i) (hi : i < n) (hk : kindZ S T i a = 2) : nextS S T n keep = some ⟨2, i, a, 0#32⟩ := by
  obtain ⟨k1, k2, k3, k4⟩ := kind_is2 hk
  unfold nextS
  rw [steps_eq, range_nil (trims_nil h1)]
  obtain ⟨r, e⟩ := range_head (f := fun i => if T i = true then sameOf (a, S a) (i, S i) else []) (sames_nil h3 k3) (x := (⟨2, i, a, 0#32⟩ : Stp)) (r := []) (by
    show (if T i = true then sameOf (a, S a) (i, S i) else []) = _
    rw [if_pos k2]; unfold sameOf; rw [if_pos ⟨hai, k4.symm⟩]) hi
  obtain ⟨r', e'⟩ := range_head (same_rows h2) (x := (⟨2, i, a, 0#32⟩ : Stp)) (r := r) (by rw [if_pos k3]; exact e) (by omega : a < n)
  rw [e']; rfl
theorem next_under {i j : Nat} (h1 : noTrim S T n keep n) (h2 : ∀ b, b < n → noSame S T n b) (h3 : ∀ b, b < i → noUnder S T n b) (h4 : ∀ m, m < j → kindZ S T i m ≠ 3) (hi : i < n) (hj : j < n) (hk : kindZ S T i j = 3) : nextS S T n keep = some ⟨3, i, j, 0#32⟩ := by
  obtain ⟨k1, k2, k3, k4, k5⟩ := kind_is3 hk
  unfold nextS
  rw [steps_eq, range_nil (trims_nil h1), range_nil (same_rows h2)]
  obtain ⟨r, e⟩ := range_head (f := fun j => if T j = true then underOf (i, S i) (j, S j) else []) (unders_nil h4 k2) (x := (⟨3, i, j, 0#32⟩ : Stp)) (r := []) (by
    show (if T j = true then underOf (i, S i) (j, S j) else []) = _
    rw [if_pos k3]; unfold underOf; rw [if_pos ⟨k4, k5⟩]) hj
  obtain ⟨r', e'⟩ := range_head (under_rows h3) (x := (⟨3, i, j, 0#32⟩ : Stp)) (r := r) (by rw [if_pos k2]; exact e) hi
  rw [e']; rfl
theorem next_none (h1 : noTrim S T n keep n) (h2 : ∀ b, b < n → noSame S T n b) (h3 : ∀ b, b < n → noUnder S T n b) : nextS S T n keep = none := by
  unfold nextS
  rw [steps_eq, range_nil (trims_nil h1), range_nil (same_rows h2), range_nil (under_rows h3), range_nil]
  · rfl
  · intro i hi
    split
    · next c =>
      refine range_nil fun j hj => ?_
      split
      · next d =>
        unfold backOf
        rw [if_neg]
        rintro ⟨e1, e2⟩
        exact h2 j hj i e1 hi (kind_two (by have : j < i := e1; omega) c d e2)
      · rfl
    · rfl

/-! ### Is it a step, and what it makes -/
theorem isStp_lefts (s : Stp) : s ∈ stepsE (lefts S T n) keep ↔
    (∃ i, i < n ∧ T i = true ∧ loneTo S T keep i n ≠ 0#32 ∧ s = ⟨1, i, 0, loneTo S T keep i n⟩) ∨ ∃ i j, i < n ∧ j < n ∧ kindZ S T i j ≠ 0 ∧ s = ⟨kindZ S T i j, i, j, 0#32⟩ := by
  rw [mem_steps]
  unfold IsStp
  constructor
  · rintro (⟨x, hx, h1, rfl⟩ | ⟨x, hx, y, hy, h1, h2, rfl⟩ | ⟨x, hx, y, hy, h1, h2, rfl⟩)
    · obtain ⟨a, b, c⟩ := mem_lefts.1 hx
      have e : cutE (lefts S T n) keep x = loneTo S T keep x.1 n := by rw [lone_cut, ← c]
      exact .inl ⟨x.1, a, b, by rw [← e]; exact h1, by rw [e]⟩
    · obtain ⟨a, b, c⟩ := mem_lefts.1 hx
      obtain ⟨a', b', c'⟩ := mem_lefts.1 hy
      have e := kind_two (S := S) (T := T) (Ne.symm h1) b' b (by rw [← c, ← c', h2])
      exact .inr ⟨y.1, x.1, a', a, by omega, by rw [e]⟩
    · obtain ⟨a, b, c⟩ := mem_lefts.1 hx
      obtain ⟨a', b', c'⟩ := mem_lefts.1 hy
      have e := kind_three (S := S) (T := T) (i := x.1) (j := y.1) (fun e => h1 (by rw [c, c', e])) b b' (by rw [← c, ← c']; exact h1) (by rw [← c, ← c']; exact h2)
      exact .inr ⟨x.1, y.1, a, a', by omega, by rw [e]⟩
  · rintro (⟨i, h1, h2, h3, rfl⟩ | ⟨i, j, h1, h2, h3, rfl⟩)
    · rw [lone_cut] at h3 ⊢
      exact .inl ⟨(i, S i), mem_lefts.2 ⟨h1, h2, rfl⟩, h3, rfl⟩
    · obtain ⟨a, b, c⟩ := kind_ne h3
      have hk : kindZ S T i j = 2 ∨ kindZ S T i j = 3 := by
        unfold kindZ at h3 ⊢
        split
        · next d => rw [if_pos d] at h3; exact absurd rfl h3
        · next d =>
          rw [if_neg d] at h3
          split
          · exact .inl rfl
          · next f =>
            rw [if_neg f] at h3
            split
            · exact .inr rfl
            · next g => rw [if_neg g] at h3; exact absurd rfl h3
      rcases hk with e | e
      · obtain ⟨_, _, _, d⟩ := kind_is2 e
        rw [e]
        exact .inr (.inl ⟨(j, S j), mem_lefts.2 ⟨h2, c, rfl⟩, (i, S i), mem_lefts.2 ⟨h1, b, rfl⟩, Ne.symm a, d.symm, rfl⟩)
      · obtain ⟨_, _, _, d, f⟩ := kind_is3 e
        rw [e]
        exact .inr (.inr ⟨(i, S i), mem_lefts.2 ⟨h1, b, rfl⟩, (j, S j), mem_lefts.2 ⟨h2, c, rfl⟩, d, f, rfl⟩)
/-- Is it a step? -/
def isB (S : Nat → BitVec 32) (T : Nat → Bool) (n : Nat) (keep : BitVec 32) (s : Stp) : Bool := decide (s ∈ stepsE (lefts S T n) keep)
theorem isB_out {s : Stp} (h : s.edge < 0 ∨ s.into < 0 ∨ (n : Int) ≤ s.edge ∨ (n : Int) ≤ s.into) : isB S T n keep s = false := by
  unfold isB
  rw [decide_eq_false_iff_not, isStp_lefts]
  rintro (⟨i, h1, h2, h3, rfl⟩ | ⟨i, j, h1, h2, h3, rfl⟩)
  · simp only at h; omega
  · simp only at h; omega
theorem isB_gone {s : Stp} {i : Nat} (he : s.edge = i) (h : T i = false) : isB S T n keep s = false := by
  unfold isB
  rw [decide_eq_false_iff_not, isStp_lefts]
  rintro (⟨k, h1, h2, h3, rfl⟩ | ⟨k, j, h1, h2, h3, rfl⟩)
  · obtain rfl := ni.1 he; rw [h] at h2; cases h2
  · obtain rfl := ni.1 he
    have := (kind_ne h3).2.1
    rw [h] at this; cases this
theorem kindZ_ne_one (i j : Nat) : kindZ S T i j ≠ 1 := by
  unfold kindZ
  split
  · omega
  · split
    · omega
    · split <;> omega
theorem isB_trim {s : Stp} {i : Nat} (he : s.edge = i) (hi : i < n) (hT : T i = true) (hk : s.kind = 1) : isB S T n keep s = (!(s.cut == 0#32) && decide (s = ⟨1, i, 0, loneTo S T keep i n⟩)) := by
  unfold isB
  rw [Bool.eq_iff_iff, decide_eq_true_eq, Bool.and_eq_true, decide_eq_true_eq, Bool.not_eq_true', beq_eq_false_iff_ne, isStp_lefts]
  constructor
  · rintro (⟨k, h1, h2, h3, rfl⟩ | ⟨k, j, h1, h2, h3, rfl⟩)
    · obtain rfl := ni.1 he; exact ⟨h3, rfl⟩
    · exact absurd hk (kindZ_ne_one _ _)
  · rintro ⟨h1, h2⟩
    refine .inl ⟨i, hi, hT, ?_, h2⟩
    rw [h2] at h1; exact h1
theorem isB_other {s : Stp} {i j : Nat} (he : s.edge = i) (hi : i < n) (hj : j < n) (hinto : s.into = j) (hk : s.kind ≠ 1) : isB S T n keep s = (!(kindZ S T i j == 0) && decide (s = ⟨kindZ S T i j, i, j, 0#32⟩)) := by
  unfold isB
  rw [Bool.eq_iff_iff, decide_eq_true_eq, Bool.and_eq_true, decide_eq_true_eq, Bool.not_eq_true', beq_eq_false_iff_ne, isStp_lefts]
  constructor
  · rintro (⟨k, h1, h2, h3, rfl⟩ | ⟨k, m, h1, h2, h3, rfl⟩)
    · exact absurd rfl hk
    · obtain rfl := ni.1 he
      obtain rfl := ni.1 hinto
      exact ⟨h3, rfl⟩
  · rintro ⟨h1, h2⟩
    exact .inr ⟨i, j, hi, hj, h1, h2⟩
theorem make_trim {i : Nat} {c : BitVec 32} {q : Int} (hT : T i = true) : makeE (lefts S T n) ⟨1, i, q, c⟩ = lefts (updS S i (S i &&& ~~~c)) T n := by
  unfold makeE
  rw [flatMap_lefts]
  unfold lefts
  congr 1
  funext k
  unfold leftOf makeOf updS
  by_cases e : k = i
  · subst e; simp [hT]
  · by_cases c : T k = true
    · simp [c, e]
      exact fun x => absurd (ni.1 x) e
    · simp [c]
theorem make_gone {i : Nat} {k q : Int} {c : BitVec 32} (hk : k ≠ 1) : makeE (lefts S T n) ⟨k, i, q, c⟩ = lefts S (updT T i false) n := by
  unfold makeE
  rw [flatMap_lefts]
  unfold lefts
  congr 1
  funext m
  unfold leftOf makeOf updT
  by_cases e : m = i
  · subst e; simp [hk]
  · by_cases c : T m = true
    · simp [c, e]
      exact fun x => absurd (ni.1 x) e
    · simp [c, e]
end

/-! ### The run -/
def sizeW (x : BitVec 32) : Nat := cntB (fun v => x.getLsbD v) 32
theorem sizeW_le (x : BitVec 32) : sizeW x ≤ 32 := cntB_le _ _
theorem sizeW_cut {x c : BitVec 32} {v : Nat} (h1 : hv x v) (h2 : hv c v) : sizeW (x &&& ~~~c) < sizeW x := by
  unfold sizeW
  refine cntB_strict (j := v) h1 ?_ (fun i _ h => ?_) (hv_lt h1)
  · cases h : (x &&& ~~~c).getLsbD v
    · rfl
    · exact absurd h2 ((hv_andNot x c v).1 h).2
  · exact ((hv_andNot x c i).1 h).1
/-- How many steps there can be at most. -/
def mu (L : Lt) : Nat := (L.map fun x => 1 + sizeW x.2).sum
theorem mu_make : ∀ {L : Lt} {s : Stp}, mu (makeE L s) ≤ mu L
  | [], _ => Nat.le_refl _
  | a :: L, s => by
    have ih := mu_make (L := L) (s := s)
    rw [makeE_cons]
    unfold mu at ih ⊢
    rw [List.map_append, List.sum_append, List.map_cons, List.sum_cons]
    have : ((makeOf s a).map fun x => 1 + sizeW x.2).sum ≤ 1 + sizeW a.2 := by
      unfold makeOf
      split
      · split
        · simp
          unfold sizeW
          exact cntB_mono fun i _ h => ((hv_andNot _ _ i).1 h).1
        · simp
      · simp
    omega
theorem mu_lt : ∀ {L : Lt} {s : Stp} {x : Nat × BitVec 32}, x ∈ L → s.edge = x.1 → (s.kind = 1 → ∃ v, hv x.2 v ∧ hv s.cut v) → mu (makeE L s) < mu L
  | [], _, _, h, _, _ => by cases h
  | a :: L, s, x, h, he, hc => by
    rw [makeE_cons]
    have e : ∀ l r : Lt, mu (l ++ r) = mu l + mu r := fun l r => by unfold mu; rw [List.map_append, List.sum_append]
    have e2 : mu (a :: L) = 1 + sizeW a.2 + mu L := by unfold mu; simp
    rw [e, e2]
    rcases List.mem_cons.1 h with rfl | h
    · have h1 := mu_make (L := L) (s := s)
      have : mu (makeOf s x) < 1 + sizeW x.2 := by
        unfold makeOf
        rw [if_pos he.symm]
        split
        · next k =>
          obtain ⟨v, h1, h2⟩ := hc k
          have := sizeW_cut h1 h2
          simp [mu]; omega
        · simp [mu]; omega
      omega
    · have h1 := mu_lt h he hc
      have : mu (makeOf s a) ≤ 1 + sizeW a.2 := by
        have := mu_make (L := [a]) (s := s)
        simpa [makeE, mu] using this
      omega
theorem mu_step {L : Lt} {keep : BitVec 32} {s : Stp} (hs : Srt L) (h : IsStp L keep s) : mu (makeE L s) < mu L := by
  rcases h.cases hs with ⟨x, hx, hc, rfl⟩ | ⟨x, hx, y, hy, k, hne, hk, hsub, rfl⟩
  · refine mu_lt hx rfl fun _ => ?_
    obtain ⟨v, hh⟩ := (ne_zero_iff _).1 hc
    exact ⟨v, ((hv_cut L keep x v).1 hh).1, hh⟩
  · exact mu_lt hx rfl fun e => absurd e hk
/-- The first k steps of the removal, and what they leave. -/
def runN (keep : BitVec 32) (L : Lt) : Nat → List Stp × Lt
  | 0 => ([], L)
  | k + 1 => match (stepsE (runN keep L k).2 keep).head? with
    | none => runN keep L k
    | some s => ((runN keep L k).1 ++ [s], makeE (runN keep L k).2 s)
theorem runN_none {keep : BitVec 32} {L : Lt} {k : Nat} (h : (stepsE (runN keep L k).2 keep).head? = none) : ∀ m, k ≤ m → runN keep L m = runN keep L k
  | 0, hm => by obtain rfl : k = 0 := by omega
                rfl
  | m + 1, hm => by
    rcases Nat.lt_or_ge m k with c | c
    · obtain rfl : k = m + 1 := by omega
      rfl
    · have ih := runN_none h m c
      show (match (stepsE (runN keep L m).2 keep).head? with | none => runN keep L m | some s => _) = _
      rw [ih, h]
theorem runN_some {keep : BitVec 32} {L : Lt} {k : Nat} {s : Stp} (h : (stepsE (runN keep L k).2 keep).head? = some s) : runN keep L (k + 1) = ((runN keep L k).1 ++ [s], makeE (runN keep L k).2 s) := by
  show (match (stepsE (runN keep L k).2 keep).head? with | none => runN keep L k | some s => _) = _
  rw [h]
theorem Rch.snoc {keep : BitVec 32} {L M : Lt} {ss : List Stp} {s : Stp} (r : Rch keep L ss M) (h : IsStp M keep s) : Rch keep L (ss ++ [s]) (makeE M s) := by
  induction r with
  | nil => exact .cons h (.nil _)
  | cons h' _ ih => exact .cons h' (ih h)
theorem head_mem {α : Type} {l : List α} {x : α} (h : l.head? = some x) : x ∈ l := by
  cases l with
  | nil => cases h
  | cons a r =>
    injection h with h
    rw [h]; exact List.mem_cons_self
theorem runN_rch (keep : BitVec 32) (L : Lt) : ∀ k, Rch keep L (runN keep L k).1 (runN keep L k).2
  | 0 => .nil L
  | k + 1 => by
    cases h : (stepsE (runN keep L k).2 keep).head? with
    | none => rw [runN_none h (k + 1) (by omega)]; exact runN_rch keep L k
    | some s =>
      rw [runN_some h]
      exact (runN_rch keep L k).snoc ((mem_steps _ _ _).1 (head_mem h))
theorem runN_mu {keep : BitVec 32} {L : Lt} (hs : Srt L) : ∀ k, (stepsE (runN keep L k).2 keep).head? = none ∨ mu (runN keep L k).2 + k ≤ mu L
  | 0 => .inr (Nat.le_refl _)
  | k + 1 => by
    cases h : (stepsE (runN keep L k).2 keep).head? with
    | none => left; rw [runN_none h (k + 1) (by omega)]; exact h
    | some s =>
      right
      rcases runN_mu hs k with c | c
      · rw [h] at c; cases c
      · rw [runN_some h]
        have := mu_step ((runN_rch keep L k).srt hs) ((mem_steps _ _ _).1 (head_mem h))
        show mu (makeE _ s) + (k + 1) ≤ _
        omega
theorem mu_begin (E : List (BitVec 32)) (h : E.length ≤ 7) : mu (beginE E) ≤ 231 := by
  have key : ∀ L : Lt, mu L ≤ 33 * L.length := by
    intro L
    induction L with
    | nil => exact Nat.le_refl _
    | cons a L ih =>
      have e : mu (a :: L) = 1 + sizeW a.2 + mu L := by unfold mu; simp
      have := sizeW_le a.2
      rw [e, List.length_cons]; omega
  have := key (beginE E)
  have e : (beginE E).length = E.length := by simp [beginE]
  omega
/-- The removal. -/
def runE (E : List (BitVec 32)) (keep : BitVec 32) : List Stp × Lt := runN keep (beginE E) 232
theorem runE_stuck {E : List (BitVec 32)} (keep : BitVec 32) (h : E.length ≤ 7) : (stepsE (runE E keep).2 keep).head? = none := by
  rcases runN_mu (keep := keep) (srt_begin E) 232 with c | c
  · exact c
  · have := mu_begin E h; omega
theorem runE_eq {E : List (BitVec 32)} {keep : BitVec 32} (h : E.length ≤ 7) {k : Nat} (hk : (stepsE (runN keep (beginE E) k).2 keep).head? = none) : runN keep (beginE E) k = runE E keep := by
  rcases Nat.le_total k 232 with c | c
  · exact (runN_none hk 232 c).symm
  · exact runN_none (runE_stuck keep h) k c
theorem runE_rch (E : List (BitVec 32)) (keep : BitVec 32) : Rch keep (beginE E) (runE E keep).1 (runE E keep).2 := runN_rch _ _ _
theorem head_none {α : Type} {l : List α} (h : l.head? = none) : l = [] := by
  cases l with
  | nil => rfl
  | cons a r => cases h
theorem runE_Stuck {E : List (BitVec 32)} (keep : BitVec 32) (h : E.length ≤ 7) : Stuck (runE E keep).2 keep := (stuck_iff _ _).1 (head_none (runE_stuck keep h))
theorem runN_len (keep : BitVec 32) (L : Lt) : ∀ k, (runN keep L k).1.length ≤ k
  | 0 => Nat.le_refl _
  | k + 1 => by
    have ih := runN_len keep L k
    cases h : (stepsE (runN keep L k).2 keep).head? with
    | none => rw [runN_none h (k + 1) (by omega)]; omega
    | some s => rw [runN_some h]; simp; omega
theorem make_len : ∀ (L : Lt) (s : Stp), (makeE L s).length ≤ L.length
  | [], _ => Nat.le_refl _
  | a :: L, s => by
    have := make_len L s
    rw [makeE_cons, List.length_append]
    have : (makeOf s a).length ≤ 1 := by unfold makeOf; split <;> (try split) <;> simp
    simp; omega
theorem Rch.len {keep : BitVec 32} {L M : Lt} {ss : List Stp} (r : Rch keep L ss M) : M.length ≤ L.length := by
  induction r with
  | nil => exact Nat.le_refl _
  | cons _ _ ih => exact Nat.le_trans ih (make_len _ _)
theorem begin_len (E : List (BitVec 32)) : (beginE E).length = E.length := by simp [beginE]
theorem begin_lefts (E : List (BitVec 32)) : beginE E = lefts (ed E) (fun i => decide (i < E.length)) E.length := by
  unfold beginE lefts
  have : ∀ n, n ≤ E.length → (List.range n).map (fun i => (i, ed E i)) = (List.range n).flatMap (leftOf (ed E) fun i => decide (i < E.length)) := by
    intro n
    induction n with
    | zero => intro _; rfl
    | succ n ih =>
      intro hn
      rw [List.range_succ, List.map_append, List.flatMap_append, ih (by omega)]
      simp [leftOf, show n < E.length by omega]
  exact this _ (Nat.le_refl _)
end Go.Proofs.Ytkenbmelhfhidaa
