/- The plain law of HyperWalks: what is true of least paths, whichever way they go. No program in sight. -/
import Derived.Test.YtaongngoacbodaaDoorPathLaw3
import Derived.Test.YtaongngoacbodaaDoorZed
namespace Go.Proofs.YtaongngoacbodaaDoor

section
variable {E : List (BitVec 32)} {s t : Nat} {inner : BitVec 32}
theorem isP_at : ∀ {p : List Nat}, IsP E s t inner p → 0 < p.length ∧ zed p (p.length - 1) = t ∧ ∀ i, i + 1 < p.length → zed p i ≠ t ∧ adj E (zed p i) (zed p (i + 1)) ∧ okV s t inner (zed p (i + 1))
  | [v], h => ⟨by simp, h, fun i hi => by simp at hi⟩
  | v :: u :: r, h => by
    obtain ⟨h1, h2, h3, h4⟩ := h
    obtain ⟨a, b, c⟩ := isP_at h4
    refine ⟨by simp, ?_, fun i hi => ?_⟩
    · rw [← b]; simp [zed]
    · cases i with
      | zero => exact ⟨h1, h2, h3⟩
      | succ i =>
        have := c i (by simpa using hi)
        simpa [zed] using this
theorem isP_of : ∀ {p : List Nat}, 0 < p.length → zed p (p.length - 1) = t → (∀ i, i + 1 < p.length → zed p i ≠ t ∧ adj E (zed p i) (zed p (i + 1)) ∧ okV s t inner (zed p (i + 1))) → IsP E s t inner p
  | [v], _, h, _ => h
  | v :: u :: r, _, h, hi => by
    obtain ⟨a, b, c⟩ := hi 0 (by simp)
    refine ⟨a, b, c, isP_of (by simp) ?_ fun i hh => ?_⟩
    · rw [← h]; simp [zed]
    · have := hi (i + 1) (by simpa using hh)
      simpa [zed] using this
theorem zed_reverse (p : List Nat) (i : Nat) (h : i < p.length) : zed p.reverse i = zed p (p.length - 1 - i) := by
  rw [← zed_eq _ i (by simpa using h), ← zed_eq _ _ (by omega), List.getElem_reverse]
theorem isP_back {p : List Nat} (h : IsP E s t inner p) (h0 : p.head? = some s) (_hne : s ≠ t) : IsP E t s inner p.reverse ∧ p.reverse.head? = some t := by
  obtain ⟨a, b, c⟩ := isP_at h
  have hz0 : zed p 0 = s := by
    cases p with
    | nil => cases h0
    | cons x r => simpa [zed] using h0
  constructor
  · refine isP_of (by simpa using a) ?_ fun i hi => ?_
    · rw [List.length_reverse, zed_reverse _ _ (by omega), show p.length - 1 - (p.length - 1) = 0 by omega, hz0]
    · rw [List.length_reverse] at hi
      rw [zed_reverse _ _ (by omega), zed_reverse _ _ (by omega)]
      have hj := c (p.length - 1 - (i + 1)) (by omega)
      rw [show p.length - 1 - (i + 1) + 1 = p.length - 1 - i by omega] at hj
      refine ⟨?_, adj_symm hj.2.1, hj.1, ?_⟩
      · intro e; exact hj.2.2.1 e
      · by_cases e : p.length - 1 - (i + 1) = 0
        · left; rw [e, hz0]
        · right
          have hk := c (p.length - 1 - (i + 1) - 1) (by omega)
          rw [show p.length - 1 - (i + 1) - 1 + 1 = p.length - 1 - (i + 1) by omega] at hk
          rcases hk.2.2.2 with x | x
          · exact absurd x hj.1
          · exact x
  · rw [List.head?_reverse, List.getLast?_eq_getElem?, List.getElem?_eq_getElem (by omega), zed_eq _ _ (by omega), b]
theorem best_min {p q : List Nat} (h : Best E s t inner p) (hq : IsP E s t inner q) (h0 : q.head? = some s) : p.length ≤ q.length := by
  have := h.2.2 q hq h0
  unfold lessL at this
  split at this
  · omega
  · simp at this; omega
theorem isP_drop : ∀ {p : List Nat} (i : Nat), IsP E s t inner p → i < p.length → IsP E s t inner (p.drop i)
  | _, 0, h, _ => h
  | [v], i + 1, _, hi => by simp at hi
  | v :: u :: r, i + 1, h, hi => isP_drop (p := u :: r) i h.2.2.2 (by simpa using hi)
theorem isP_join {r : List Nat} {y : Nat} (hr : IsP E s t inner (y :: r)) (hy : okV s t inner y) : ∀ {p : List Nat} (j : Nat), IsP E s t inner p → j < p.length → zed p j ≠ t → adj E (zed p j) y → IsP E s t inner (p.take (j + 1) ++ y :: r)
  | v :: p, 0, h, _, h1, h2 => ⟨h1, h2, hy, hr⟩
  | [v], j + 1, _, hi, _, _ => by simp at hi
  | v :: u :: p, j + 1, h, hi, h1, h2 => ⟨h.1, h.2.1, h.2.2.1, isP_join hr hy (p := u :: p) j h.2.2.2 (by simpa using hi) h1 h2⟩
theorem drop_cons_zed (p : List Nat) (i : Nat) (h : i < p.length) : p.drop i = zed p i :: p.drop (i + 1) := by
  rw [List.drop_eq_getElem_cons h, zed_eq _ _ h]
theorem no_chord {p : List Nat} (h : Best E s t inner p) {i j : Nat} (hj : j + 1 < i) (hi : i < p.length) : ¬ adj E (zed p j) (zed p i) ∧ zed p i ≠ zed p j := by
  obtain ⟨a, b, c⟩ := isP_at h.1
  have hd := isP_drop i h.1 hi
  rw [drop_cons_zed p i hi] at hd
  have hok : okV s t inner (zed p i) := by
    have := c (i - 1) (by omega)
    rw [show i - 1 + 1 = i by omega] at this
    exact this.2.2
  have head : ∀ k r, (p.take (k + 1) ++ r).head? = some s := by
    intro k r
    have h0 := h.2.1
    cases p with
    | nil => cases h0
    | cons x q => simpa using h0
  have len : ∀ k, k < p.length → (p.take (k + 1) ++ zed p i :: p.drop (i + 1)).length = k + 1 + (p.length - i) := by
    intro k hk
    rw [List.length_append, List.length_take, List.length_cons, List.length_drop]
    omega
  constructor
  · intro ha
    have := best_min h (isP_join hd hok j h.1 (by omega) (c j (by omega)).1 ha) (head _ _)
    rw [len j (by omega)] at this
    omega
  · intro e
    cases j with
    | zero =>
      have h0 : zed p 0 = s := by
        have h0 := h.2.1
        cases p with
        | nil => cases h0
        | cons x q => simpa [zed] using h0
      exact hok.1 (by rw [e, h0])
    | succ j =>
      have hcj := c j (by omega)
      have := best_min h (isP_join hd hok j h.1 (by omega) hcj.1 (by rw [e]; exact hcj.2.1)) (head _ _)
      rw [len j (by omega)] at this
      omega
theorem isP_from {v : Nat} (hne : s ≠ t) : ∀ {q : List Nat}, IsP E v t inner q → (∃ q', IsP E s t inner q' ∧ q'.head? = some s ∧ q'.length ≤ q.length) ∨ (s ∉ q ∧ IsP E s t inner q)
  | [x], h => .inr ⟨by rw [List.mem_singleton]; rintro rfl; exact hne h, h⟩
  | x :: u :: r, h => by
    obtain ⟨h1, h2, h3, h4⟩ := h
    rcases isP_from hne h4 with ⟨q', a, b, c⟩ | ⟨a, b⟩
    · exact .inl ⟨q', a, b, by simp at c ⊢; omega⟩
    · have hok : okV s t inner u := ⟨fun e => a (by rw [e]; simp), h3.2⟩
      by_cases e : x = s
      · subst e
        exact .inl ⟨x :: u :: r, ⟨h1, h2, hok, b⟩, rfl, Nat.le_refl _⟩
      · exact .inr ⟨by rw [List.mem_cons]; rintro (c | c); exact e c.symm; exact a c, h1, h2, hok, b⟩
theorem beside {v : Nat} {p q : List Nat} (hne : s ≠ t) (hp : Best E s t inner p) (hq : Best E v t inner q) (hin : inner.getLsbD v = true) (ha : adj E s v) : p.length ≤ q.length + 1 := by
  rcases isP_from hne hq.1 with ⟨q', a, b, c⟩ | ⟨_, b⟩
  · have := best_min hp a b; omega
  · have h0 := hq.2.1
    cases q with
    | nil => cases h0
    | cons x r =>
      obtain rfl : x = v := by simpa using h0
      have : IsP E s t inner (s :: x :: r) := ⟨hne, ha, ⟨fun e => ha.1 e.symm, .inr hin⟩, b⟩
      have := best_min hp this rfl
      simp at this ⊢; omega
end

/-! ### As the law asks it -/
theorem pathIs_valid {V : Int} {E : List (BitVec 32)} {s t : Int} {inner : BitVec 32} {Z : List Nat} (h : PathIs V E s t inner Z 0) : validB V E = true ∧ 0 ≤ s ∧ 0 ≤ t ∧ s < V ∧ t < V ∧ ((s = t ∧ Z = [s.toNat]) ∨ (s ≠ t ∧ ((Z = [] ∧ ∀ p, IsP E s.toNat t.toNat inner p → p.head? ≠ some s.toNat) ∨ Best E s.toNat t.toNat inner Z))) := by
  rcases h with ⟨_, c, _⟩ | ⟨_, _, c, _⟩ | ⟨a, b, c, d, e, f, _, g⟩ | ⟨a, b, c, d, e, f, _, g⟩
  · omega
  · omega
  · exact ⟨a, b, c, d, e, .inl ⟨f, g⟩⟩
  · exact ⟨a, b, c, d, e, .inr ⟨f, g⟩⟩
theorem pathIs_bad {V : Int} {E : List (BitVec 32)} {s t : Int} {inner : BitVec 32} {Z : List Nat} {k : Int} (h : PathIs V E s t inner Z k) (hk : k ≠ 0) : Z = [] := by
  rcases h with ⟨_, _, c⟩ | ⟨_, _, _, c⟩ | ⟨_, _, _, _, _, _, c, _⟩ | ⟨_, _, _, _, _, _, c, _⟩
  · exact c
  · exact c
  · exact absurd c hk
  · exact absurd c hk
theorem pathIs_code {V : Int} {E : List (BitVec 32)} {s t : Int} {inner : BitVec 32} {Z : List Nat} {k : Int} (h : PathIs V E s t inner Z k) (hv : validB V E = true) (h1 : 0 ≤ s) (h2 : 0 ≤ t) (h3 : s < V) (h4 : t < V) : k = 0 := by
  rcases h with ⟨c, _⟩ | ⟨_, c, _⟩ | ⟨_, _, _, _, _, _, c, _⟩ | ⟨_, _, _, _, _, _, c, _⟩
  · rw [hv] at c; cases c
  · omega
  · exact c
  · exact c
theorem walks_back {V : Int} {E : List (BitVec 32)} {s t : Int} {inner : BitVec 32} {Z Y : List Nat} {k : Int} (h : PathIs V E s t inner Z 0) (h' : PathIs V E t s inner Y k) : k = 0 ∧ Y.length = Z.length := by
  obtain ⟨hv, h1, h2, h3, h4, hz⟩ := pathIs_valid h
  obtain rfl := pathIs_code h' hv h2 h1 h4 h3
  obtain ⟨_, _, _, _, _, hy⟩ := pathIs_valid h'
  refine ⟨rfl, ?_⟩
  rcases hz with ⟨e, rfl⟩ | ⟨e, hz⟩
  · rcases hy with ⟨_, rfl⟩ | ⟨e', _⟩
    · rfl
    · exact absurd e.symm e'
  · rcases hy with ⟨e', _⟩ | ⟨e', hy⟩
    · exact absurd e'.symm e
    · have hne : s.toNat ≠ t.toNat := by omega
      rcases hz with ⟨rfl, hz⟩ | hz <;> rcases hy with ⟨rfl, hy⟩ | hy
      · rfl
      · obtain ⟨a, b⟩ := isP_back hy.1 hy.2.1 hne.symm
        exact absurd b (hz _ a)
      · obtain ⟨a, b⟩ := isP_back hz.1 hz.2.1 hne
        exact absurd b (hy _ a)
      · obtain ⟨a, b⟩ := isP_back hy.1 hy.2.1 hne.symm
        obtain ⟨c, d⟩ := isP_back hz.1 hz.2.1 hne
        have h1 := best_min hz a b
        have h2 := best_min hy c d
        rw [List.length_reverse] at h1 h2
        omega
theorem walks_none {V : Int} {E : List (BitVec 32)} {s t : Int} {inner : BitVec 32} (h : PathIs V E s t inner [] 0) : nearB E s t = false ∧ s ≠ t := by
  obtain ⟨hv, h1, h2, h3, h4, hz⟩ := pathIs_valid h
  obtain ⟨m, rfl⟩ := Int.eq_ofNat_of_zero_le h1
  obtain ⟨n, rfl⟩ := Int.eq_ofNat_of_zero_le h2
  rcases hz with ⟨_, e⟩ | ⟨e, ⟨_, hz⟩ | hz⟩
  · cases e
  · refine ⟨?_, e⟩
    cases hn : nearB E (m : Int) (n : Int)
    · rfl
    · have ha := (nearB_iff E m n).1 hn
      exact absurd rfl (hz [m, n] ⟨by omega, ha, ⟨by have := ha.1; exact fun e => this e.symm, .inl rfl⟩, rfl⟩)
  · exact absurd hz.2.1 (by simp)
/-- What holds at each vertex of a path that was told. -/
theorem walks_facts {V : Int} {E : List (BitVec 32)} {s t : Int} {inner : BitVec 32} {Z : List Nat} (h : PathIs V E s t inner Z 0) (hz : Z ≠ []) :
    0 < Z.length ∧ (zed Z 0 : Int) = s ∧ (zed Z (Z.length - 1) : Int) = t ∧ (∀ i, i + 1 < Z.length → nearB E (zed Z i) (zed Z (i + 1)) = true) ∧
    (∀ i, 0 < i → i + 1 < Z.length → inB inner (zed Z i) = true) ∧ ∀ i j, j + 1 < i → i < Z.length → nearB E (zed Z j) (zed Z i) = false ∧ zed Z i ≠ zed Z j := by
  obtain ⟨hv, h1, h2, h3, h4, hc⟩ := pathIs_valid h
  obtain ⟨m, rfl⟩ := Int.eq_ofNat_of_zero_le h1
  obtain ⟨n, rfl⟩ := Int.eq_ofNat_of_zero_le h2
  rcases hc with ⟨e, rfl⟩ | ⟨e, ⟨e2, _⟩ | hb⟩
  · refine ⟨by simp, by simp [zed], by simp [zed]; omega, fun i hi => by simp at hi, fun i _ hi => by simp at hi, fun i j hj hi => by simp at hi; omega⟩
  · exact absurd e2 hz
  · obtain ⟨a, b, c⟩ := isP_at hb.1
    simp only [Int.toNat_natCast] at b c hb
    have h0 : zed Z 0 = m := by
      have h0 := hb.2.1
      cases Z with
      | nil => cases h0
      | cons x q => simpa [zed] using h0
    refine ⟨a, by rw [h0], by rw [b], fun i hi => (nearB_iff E _ _).2 (c i hi).2.1, fun i hi hl => ?_, fun i j hj hi => ?_⟩
    · have h5 := (c i hl).1
      have h6 := c (i - 1) (by omega)
      rw [show i - 1 + 1 = i by omega] at h6
      rw [inB_nat]
      rcases h6.2.2.2 with x | x
      · exact absurd x h5
      · exact x
    · obtain ⟨x, y⟩ := no_chord hb hj hi
      refine ⟨?_, y⟩
      cases hn : nearB E (zed Z j : Int) (zed Z i : Int)
      · rfl
      · exact absurd ((nearB_iff E _ _).1 hn) x
theorem walks_beside {V : Int} {E : List (BitVec 32)} {s t : Int} {inner : BitVec 32} {Z Y : List Nat} {v : Nat} {k : Int} (h : PathIs V E s t inner Z 0) (hvV : (v : Int) < V) (hvt : (v : Int) ≠ t) (hin : inB inner v = true) (hn : nearB E s v = true)
    (h' : PathIs V E v t inner Y k) : k = 0 ∧ (0 < Y.length → Z.length ≤ Y.length + 1) := by
  obtain ⟨hv, h1, h2, h3, h4, hc⟩ := pathIs_valid h
  obtain rfl := pathIs_code h' hv (by omega) h2 hvV h4
  refine ⟨rfl, fun hY => ?_⟩
  obtain ⟨_, _, _, _, _, hy⟩ := pathIs_valid h'
  obtain ⟨m, rfl⟩ := Int.eq_ofNat_of_zero_le h1
  obtain ⟨n, rfl⟩ := Int.eq_ofNat_of_zero_le h2
  rw [inB_nat] at hin
  have ha := (nearB_iff E m v).1 hn
  rcases hc with ⟨e, rfl⟩ | ⟨e, ⟨rfl, _⟩ | hb⟩
  · simp
  · simp
  · rcases hy with ⟨e', _⟩ | ⟨_, ⟨rfl, _⟩ | hb'⟩
    · exact absurd e' hvt
    · simp at hY
    · simp only [Int.toNat_natCast] at hb hb'
      exact beside (by omega) hb hb' hin ha
end Go.Proofs.YtaongngoacbodaaDoor
