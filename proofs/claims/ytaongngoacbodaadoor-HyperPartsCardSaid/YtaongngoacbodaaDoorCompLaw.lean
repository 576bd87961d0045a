/- What hangs together: the plain law of components. No program in sight. -/
import Derived.Test.YtaongngoacbodaaDoorZed
import Derived.Test.YtaongngoacbodaaDoorPathLaw2
namespace Go.Proofs.YtaongngoacbodaaDoor

theorem meetB_iff (x y : BitVec 32) : meetB x y = true ↔ ∃ v, x.getLsbD v = true ∧ y.getLsbD v = true := by
  unfold meetB
  rw [bne_iff_ne]
  constructor
  · intro h
    have : ∃ i, (x &&& y).getLsbD i = true := by
      apply Classical.byContradiction
      intro hn
      apply h
      apply BitVec.eq_of_getLsbD_eq
      intro i _
      rw [BitVec.getLsbD_zero]
      cases h2 : (x &&& y).getLsbD i
      · rfl
      · exact absurd ⟨i, h2⟩ hn
    obtain ⟨i, hi⟩ := this
    rw [BitVec.getLsbD_and, Bool.and_eq_true] at hi
    exact ⟨i, hi⟩
  · rintro ⟨v, h1, h2⟩ h
    have := congrArg (fun z => z.getLsbD v) h
    simp [h1, h2] at this
theorem meetB_symm (x y : BitVec 32) : meetB x y = meetB y x := by
  rw [Bool.eq_iff_iff, meetB_iff, meetB_iff]
  exact ⟨fun ⟨v, a, b⟩ => ⟨v, b, a⟩, fun ⟨v, a, b⟩ => ⟨v, b, a⟩⟩

/-- The edges k and j have a vertex in common. -/
def nb (E : List (BitVec 32)) (k j : Nat) : Prop := k < E.length ∧ j < E.length ∧ meetB (ed E k) (ed E j) = true
theorem nb_symm {E : List (BitVec 32)} {k j : Nat} (h : nb E k j) : nb E j k := ⟨h.2.1, h.1, by rw [meetB_symm]; exact h.2.2⟩
/-- n steps lead from i to j. -/
def WalkN (E : List (BitVec 32)) : Nat → Nat → Nat → Prop
  | 0, i, j => i = j
  | n + 1, i, j => ∃ k, WalkN E n i k ∧ nb E k j
theorem walk_app {E : List (BitVec 32)} {n i j : Nat} (h : WalkN E n i j) : ∀ {m k : Nat}, WalkN E m j k → WalkN E (n + m) i k
  | 0, k, hk => by
    have : j = k := hk
    subst this; exact h
  | m + 1, k, ⟨x, hx, hn⟩ => ⟨x, walk_app h hx, hn⟩
theorem walk_one {E : List (BitVec 32)} {i j : Nat} (h : nb E i j) : WalkN E 1 i j := ⟨i, rfl, h⟩
theorem walk_symm {E : List (BitVec 32)} : ∀ {n i j : Nat}, WalkN E n i j → WalkN E n j i
  | 0, i, j, h => (show i = j from h).symm
  | n + 1, i, j, ⟨k, hk, hn⟩ => by
    have := walk_app (walk_one (nb_symm hn)) (walk_symm hk)
    rwa [Nat.add_comm] at this
theorem walk_front {E : List (BitVec 32)} {n i j : Nat} (h : WalkN E (n + 1) i j) : ∃ k, nb E i k ∧ WalkN E n k j := by
  obtain ⟨k, hk, hn⟩ := walk_symm h
  exact ⟨k, nb_symm hn, walk_symm hk⟩
theorem walk_lt {E : List (BitVec 32)} {n i j : Nat} (h : WalkN E n i j) (hi : i < E.length) : j < E.length := by
  cases n with
  | zero => have : i = j := h; omega
  | succ n => obtain ⟨k, _, hn⟩ := h; exact hn.2.1
/-- They hang together. -/
def Conn (E : List (BitVec 32)) (i j : Nat) : Prop := ∃ n, WalkN E n i j
theorem conn_refl (E : List (BitVec 32)) (i : Nat) : Conn E i i := ⟨0, rfl⟩
theorem conn_symm {E : List (BitVec 32)} {i j : Nat} (h : Conn E i j) : Conn E j i := let ⟨n, hn⟩ := h; ⟨n, walk_symm hn⟩
theorem conn_trans {E : List (BitVec 32)} {i j k : Nat} (h : Conn E i j) (h' : Conn E j k) : Conn E i k := let ⟨n, hn⟩ := h; let ⟨m, hm⟩ := h'; ⟨n + m, walk_app hn hm⟩
theorem conn_nb {E : List (BitVec 32)} {i j k : Nat} (h : Conn E i j) (h' : nb E j k) : Conn E i k := let ⟨n, hn⟩ := h; ⟨n + 1, j, hn, h'⟩
theorem conn_lt {E : List (BitVec 32)} {i j : Nat} (h : Conn E i j) (hi : i < E.length) : j < E.length := let ⟨_, hn⟩ := h; walk_lt hn hi

/-- The least number of steps. -/
def WMin (E : List (BitVec 32)) (n i j : Nat) : Prop := WalkN E n i j ∧ ∀ m, m < n → ¬ WalkN E m i j
theorem wmin_of {E : List (BitVec 32)} {i j : Nat} : ∀ {n : Nat}, WalkN E n i j → ∃ m, m ≤ n ∧ WMin E m i j := by
  intro n
  induction n using Nat.strongRecOn with
  | _ n ih =>
    intro h
    by_cases hm : ∃ m, m < n ∧ WalkN E m i j
    · obtain ⟨m, hlt, hw⟩ := hm
      obtain ⟨q, hq, hw⟩ := ih m hlt hw
      exact ⟨q, by omega, hw⟩
    · exact ⟨n, Nat.le_refl _, h, fun m hlt hw => hm ⟨m, hlt, hw⟩⟩
theorem wmin_down {E : List (BitVec 32)} {i : Nat} : ∀ {n j : Nat}, WMin E n i j → ∀ k, k ≤ n → ∃ x, WMin E k i x
  | 0, j, h, k, hk => ⟨j, by obtain rfl : k = 0 := by omega
                             exact h⟩
  | n + 1, j, h, k, hk => by
    rcases Nat.lt_or_ge k (n + 1) with c | c
    · obtain ⟨x, hx, hn⟩ := h.1
      have hmin : WMin E n i x := ⟨hx, fun m hm hw => h.2 (m + 1) (by omega) ⟨x, hw, hn⟩⟩
      exact wmin_down hmin k (by omega)
    · obtain rfl : k = n + 1 := by omega
      exact ⟨j, h⟩
theorem wmin_small {E : List (BitVec 32)} {n i j : Nat} (hi : i < E.length) (h : WMin E n i j) : n < E.length := by
  have key : ∀ k, k ≤ n + 1 → ∃ l : List Nat, l.length = k ∧ l.Nodup ∧ ∀ x, x ∈ l → x < E.length ∧ ∃ m, m < k ∧ WMin E m i x := by
    intro k
    induction k with
    | zero => intro _; exact ⟨[], rfl, List.nodup_nil, fun x hx => by cases hx⟩
    | succ k ih =>
      intro hk
      obtain ⟨l, hl, hn, hx⟩ := ih (by omega)
      obtain ⟨y, hy⟩ := wmin_down h k (by omega)
      refine ⟨y :: l, by simp [hl], List.nodup_cons.2 ⟨fun hm => ?_, hn⟩, fun x hx2 => ?_⟩
      · obtain ⟨_, m, hm2, hw⟩ := hx y hm
        exact hy.2 m hm2 hw.1
      · rcases List.mem_cons.1 hx2 with rfl | hx2
        · exact ⟨walk_lt hy.1 hi, k, by omega, hy⟩
        · obtain ⟨a, m, b, c⟩ := hx x hx2
          exact ⟨a, m, by omega, c⟩
  obtain ⟨l, hl, hn, hx⟩ := key (n + 1) (Nat.le_refl _)
  have := pigeon E.length l hn fun x h => (hx x h).1
  omega
theorem conn_short {E : List (BitVec 32)} {i j : Nat} (hi : i < E.length) (h : Conn E i j) : ∃ m, m < E.length ∧ WalkN E m i j := by
  obtain ⟨n, hn⟩ := h
  obtain ⟨m, _, hm⟩ := wmin_of hn
  exact ⟨m, wmin_small hi hm, hm.1⟩

/-! ### The numbers of the components -/
def CompOf (E : List (BitVec 32)) (o : Nat → Nat) (k : Nat) : Prop :=
  (∀ i j, i < k → j < k → (o i = o j ↔ Conn E i j)) ∧ ∀ i, i < k → ∀ m, m < o i → ∃ j, j < i ∧ o j = m
theorem compOf_uniq {E : List (BitVec 32)} {o p : Nat → Nat} {k : Nat} (h : CompOf E o k) (h' : CompOf E p k) : ∀ i, i < k → o i = p i := by
  intro i
  induction i using Nat.strongRecOn with
  | _ i ih =>
    intro hi
    by_cases hc : ∃ j, j < i ∧ Conn E i j
    · obtain ⟨j, hj, hcj⟩ := hc
      rw [(h.1 i j hi (by omega)).2 hcj, (h'.1 i j hi (by omega)).2 hcj]
      exact ih j hj (by omega)
    · rcases Nat.lt_trichotomy (o i) (p i) with c | c | c
      · obtain ⟨j, hj, e⟩ := h'.2 i hi (o i) c
        rw [← ih j hj (by omega)] at e
        exact absurd ⟨j, hj, conn_symm ((h.1 j i (by omega) hi).1 e)⟩ hc
      · exact c
      · obtain ⟨j, hj, e⟩ := h.2 i hi (p i) c
        rw [ih j hj (by omega)] at e
        exact absurd ⟨j, hj, conn_symm ((h'.1 j i (by omega) hi).1 e)⟩ hc
/-- What Components answers. -/
def CompIs (V : Int) (E : List (BitVec 32)) (Z : List Nat) (code : Int) : Prop :=
  (validB V E = false ∧ Z = [] ∧ code = 140) ∨ (validB V E = true ∧ Z.length = E.length ∧ CompOf E (zed Z) E.length ∧ code = 0)
theorem compIs_uniq {V : Int} {E : List (BitVec 32)} {Z Y : List Nat} {a b : Int} (h : CompIs V E Z a) (k : CompIs V E Y b) : Z = Y ∧ a = b := by
  rcases h with ⟨h1, rfl, rfl⟩ | ⟨h1, h2, h3, rfl⟩ <;> rcases k with ⟨k1, rfl, rfl⟩ | ⟨k1, k2, k3, rfl⟩
  · exact ⟨rfl, rfl⟩
  · rw [h1] at k1; cases k1
  · rw [h1] at k1; cases k1
  · refine ⟨List.ext_getElem (h2.trans k2.symm) fun i hi hi' => ?_, rfl⟩
    rw [zed_eq Z i hi, zed_eq Y i hi']
    exact compOf_uniq h3 k3 i (by omega)

/-! ### Numbering by growing one component after another -/
structure CI (E : List (BitVec 32)) (k c : Nat) (f : Nat → Int) : Prop where
  rng : ∀ j, j < E.length → f j = -1 ∨ (0 ≤ f j ∧ f j < c)
  done : ∀ j, j < k → 0 ≤ f j
  eqv : ∀ i j, i < E.length → j < E.length → 0 ≤ f i → 0 ≤ f j → (f i = f j ↔ Conn E i j)
  closed : ∀ i j, i < E.length → 0 ≤ f i → Conn E i j → 0 ≤ f j
  grow : ∀ j, j < E.length → ∀ m : Int, 0 ≤ m → m < f j → ∃ i, i < j ∧ f i = m
  led : ∀ m : Int, 0 ≤ m → m < c → ∃ j, j < k ∧ f j = m
theorem CI.start (E : List (BitVec 32)) : CI E 0 0 (fun _ => -1) :=
  ⟨fun _ _ => .inl rfl, fun j hj => by omega, fun _ _ _ _ h => by omega, fun _ _ _ h => by omega, fun _ _ m h0 h => by omega, fun m h0 h => by omega⟩
theorem CI.skip {E : List (BitVec 32)} {k c : Nat} {f : Nat → Int} (h : CI E k c f) (hf : 0 ≤ f k) : CI E (k + 1) c f :=
  ⟨h.rng, fun j hj => by
    rcases Nat.lt_or_ge j k with a | a
    · exact h.done j a
    · obtain rfl : j = k := by omega
      exact hf, h.eqv, h.closed, h.grow, fun m h0 hm => let ⟨j, a, b⟩ := h.led m h0 hm; ⟨j, by omega, b⟩⟩
theorem CI.next {E : List (BitVec 32)} {k c : Nat} {f g : Nat → Int} (h : CI E k c f) (hk : k < E.length) (hf : f k < 0)
    (hg1 : ∀ j, j < E.length → Conn E k j → g j = c) (hg2 : ∀ j, j < E.length → ¬ Conn E k j → g j = f j) : CI E (k + 1) (c + 1) g := by
  have old : ∀ j, j < E.length → Conn E k j → f j = -1 := fun j hj hc => by
    rcases h.rng j hj with a | a
    · exact a
    · have := h.closed j k hj a.1 (conn_symm hc)
      omega
  have low : ∀ j, j < k → ¬ Conn E k j := fun j hj hc => by
    have := old j (by omega) hc
    have := h.done j hj
    omega
  refine ⟨fun j hj => ?_, fun j hj => ?_, fun i j hi hj h1 h2 => ?_, fun i j hi h1 hc => ?_, fun j hj m h0 hm => ?_, fun m h0 hm => ?_⟩
  · by_cases hc : Conn E k j
    · rw [hg1 j hj hc]; right; omega
    · rw [hg2 j hj hc]
      rcases h.rng j hj with a | a
      · exact .inl a
      · right; omega
  · rcases Nat.lt_or_ge j k with a | a
    · rw [hg2 j (by omega) (low j a)]; exact h.done j a
    · obtain rfl : j = k := by omega
      rw [hg1 j hk (conn_refl _ _)]; omega
  · by_cases c1 : Conn E k i <;> by_cases c2 : Conn E k j
    · rw [hg1 i hi c1, hg1 j hj c2]
      exact ⟨fun _ => conn_trans (conn_symm c1) c2, fun _ => rfl⟩
    · rw [hg1 i hi c1, hg2 j hj c2]
      have := h.rng j hj
      exact ⟨fun e => by omega, fun e => absurd (conn_trans c1 e) c2⟩
    · rw [hg2 i hi c1, hg1 j hj c2]
      have := h.rng i hi
      exact ⟨fun e => by omega, fun e => absurd (conn_trans c2 (conn_symm e)) c1⟩
    · rw [hg2 i hi c1] at h1 ⊢
      rw [hg2 j hj c2] at h2 ⊢
      exact h.eqv i j hi hj h1 h2
  · have hj := conn_lt hc hi
    by_cases c1 : Conn E k i
    · rw [hg1 j hj (conn_trans c1 hc)]; omega
    · have c2 : ¬ Conn E k j := fun a => c1 (conn_trans a (conn_symm hc))
      rw [hg2 i hi c1] at h1
      rw [hg2 j hj c2]
      exact h.closed i j hi h1 hc
  · by_cases c1 : Conn E k j
    · rw [hg1 j hj c1] at hm
      obtain ⟨i, hi, e⟩ := h.led m h0 hm
      refine ⟨i, ?_, by rw [hg2 i (by omega) (low i hi)]; exact e⟩
      rcases Nat.lt_or_ge j k with a | a
      · exact absurd c1 (low j a)
      · omega
    · rw [hg2 j hj c1] at hm
      obtain ⟨i, hi, e⟩ := h.grow j hj m h0 hm
      refine ⟨i, hi, ?_⟩
      by_cases c2 : Conn E k i
      · have := old i (by omega) c2; omega
      · rw [hg2 i (by omega) c2]; exact e
  · rcases Int.lt_or_le m c with a | a
    · obtain ⟨j, hj, e⟩ := h.led m h0 a
      exact ⟨j, by omega, by rw [hg2 j (by omega) (low j hj)]; exact e⟩
    · exact ⟨k, by omega, by rw [hg1 k hk (conn_refl _ _)]; omega⟩
theorem CI.end_ {E : List (BitVec 32)} {c : Nat} {f : Nat → Int} (h : CI E E.length c f) : ∃ Z : List Nat, rowOf E.length f = Z.map Int.ofNat ∧ Z.length = E.length ∧ CompOf E (zed Z) E.length := by
  refine ⟨(List.range E.length).map fun i => (f i).toNat, ?_, by simp, ?_, ?_⟩
  · unfold rowOf
    rw [List.map_map]
    apply List.map_congr_left
    intro i hi
    have := h.done i (List.mem_range.1 hi)
    simp; omega
  all_goals
    have hz : ∀ i, i < E.length → zed ((List.range E.length).map fun i => (f i).toNat) i = (f i).toNat := fun i hi => by simp [zed, hi]
  · intro i j hi hj
    rw [hz i hi, hz j hj]
    have h1 := h.done i hi
    have h2 := h.done j hj
    rw [← h.eqv i j hi hj h1 h2]
    omega
  · intro i hi m hm
    rw [hz i hi] at hm
    obtain ⟨j, hj, e⟩ := h.grow i hi m (by omega) (by omega)
    exact ⟨j, hj, by rw [hz j (by omega), e]; rfl⟩

/-- While a component grows: g is what is told by now, s the vertices that are in. -/
structure GI (E : List (BitVec 32)) (k c : Nat) (f g : Nat → Int) (s : BitVec 32) : Prop where
  lab : ∀ j, j < E.length → g j = f j ∨ (g j = c ∧ f j = -1 ∧ Conn E k j)
  set : ∀ v, s.getLsbD v = true ↔ (ed E k).getLsbD v = true ∨ ∃ j, j < E.length ∧ g j = c ∧ (ed E j).getLsbD v = true
/-- Does j come in? -/
def comeB (E : List (BitVec 32)) (k : Nat) (g : Nat → Int) (s : BitVec 32) (j : Nat) : Bool := decide (g j < 0) && (((j : Int) == (k : Int)) || (ed E j &&& s != 0#32))
theorem GI.start {E : List (BitVec 32)} {k c : Nat} {f : Nat → Int} (h : CI E k c f) : GI E k c f f (ed E k) :=
  ⟨fun _ _ => .inl rfl, fun v => ⟨.inl, fun a => a.elim id fun ⟨j, hj, e, _⟩ => by have := h.rng j hj; omega⟩⟩
theorem GI.come {E : List (BitVec 32)} {k c : Nat} {f g : Nat → Int} {s : BitVec 32} (h : GI E k c f g s) (hC : CI E k c f) (hk : k < E.length) {j : Nat} (hj : j < E.length) (hc : comeB E k g s j = true) :
    GI E k c f (fun i => if i = j then (c : Int) else g i) (s ||| ed E j) := by
  simp only [comeB, Bool.and_eq_true, Bool.or_eq_true, decide_eq_true_eq, beq_iff_eq, bne_iff_ne] at hc
  have hconn : Conn E k j := by
    rcases hc.2 with a | a
    · obtain rfl : j = k := by omega
      exact conn_refl _ _
    · have hm : meetB (ed E j) s = true := by unfold meetB; rw [bne_iff_ne]; exact a
      obtain ⟨v, h1, h2⟩ := (meetB_iff _ _).1 hm
      rcases (h.set v).1 h2 with b | ⟨i, hi, e, b⟩
      · exact ⟨1, k, rfl, hk, hj, (meetB_iff _ _).2 ⟨v, b, h1⟩⟩
      · have hci : Conn E k i := by
          rcases h.lab i hi with x | x
          · have := hC.rng i hi
            omega
          · exact x.2.2
        exact conn_nb hci ⟨hi, hj, (meetB_iff _ _).2 ⟨v, b, h1⟩⟩
  have hfj : f j = -1 := by
    have := hC.rng j hj
    rcases h.lab j hj with x | x
    · omega
    · exact x.2.1
  refine ⟨fun i hi => ?_, fun v => ?_⟩
  · by_cases e : i = j
    · subst e
      right
      exact ⟨if_pos rfl, hfj, hconn⟩
    · rw [if_neg e]; exact h.lab i hi
  · rw [BitVec.getLsbD_or, Bool.or_eq_true, h.set v]
    constructor
    · rintro ((a | ⟨i, hi, e, b⟩) | a)
      · exact .inl a
      · refine .inr ⟨i, hi, ?_, b⟩
        split
        · rfl
        · exact e
      · exact .inr ⟨j, hj, if_pos rfl, a⟩
    · rintro (a | ⟨i, hi, e, b⟩)
      · exact .inl (.inl a)
      · by_cases e2 : i = j
        · subst e2; exact .inr b
        · rw [if_neg e2] at e
          exact .inl (.inr ⟨i, hi, e, b⟩)
theorem GI.done {E : List (BitVec 32)} {k c : Nat} {f g : Nat → Int} {s : BitVec 32} (h : GI E k c f g s) (hC : CI E k c f) (hk : k < E.length) (hf : f k < 0) (hno : ∀ j, j < E.length → comeB E k g s j = false) :
    (∀ j, j < E.length → Conn E k j → g j = c) ∧ ∀ j, j < E.length → ¬ Conn E k j → g j = f j := by
  have hin : ∀ j, j < E.length → (j = k ∨ meetB (ed E j) s = true) → 0 ≤ g j := fun j hj hm => by
    have h1 := hno j hj
    rcases Int.lt_or_le (g j) 0 with a | a
    · exfalso
      have : comeB E k g s j = true := by
        simp only [comeB, Bool.and_eq_true, Bool.or_eq_true, decide_eq_true_eq, beq_iff_eq, bne_iff_ne]
        refine ⟨a, hm.imp (fun e => by omega) fun e => ?_⟩
        unfold meetB at e
        rwa [bne_iff_ne] at e
      rw [h1] at this; cases this
    · exact a
  have hkc : g k = c := by
    have := hin k hk (.inl rfl)
    rcases h.lab k hk with x | x
    · omega
    · exact x.1
  refine ⟨fun j hj ⟨n, hn⟩ => ?_, fun j hj hc => ?_⟩
  · clear hno
    revert j
    induction n with
    | zero =>
      intro j hj _ hw
      have : k = j := hw
      subst this; exact hkc
    | succ n ih =>
      rintro j hj _ ⟨i, hi, hb⟩
      have h1 := ih i hb.1 ⟨n, hi⟩ hi
      obtain ⟨v, b1, b2⟩ := (meetB_iff _ _).1 hb.2.2
      have h2 := hin j hj (.inr ((meetB_iff _ _).2 ⟨v, b2, (h.set v).2 (.inr ⟨i, hb.1, h1, b1⟩)⟩))
      rcases h.lab j hj with x | x
      · rw [x] at h2
        have := hC.closed j k hj h2 (conn_symm ⟨n + 1, i, hi, hb⟩)
        omega
      · exact x.1
  · rcases h.lab j hj with x | x
    · exact x
    · exact absurd x.2.2 hc
/-- How many are not told yet. -/
def negs (g : Nat → Int) : Nat → Nat
  | 0 => 0
  | n + 1 => negs g n + if g n < 0 then 1 else 0
theorem negs_same {g g' : Nat → Int} : ∀ {n : Nat}, (∀ i, i < n → g' i = g i) → negs g' n = negs g n
  | 0, _ => rfl
  | n + 1, h => by
    unfold negs
    rw [negs_same fun i hi => h i (by omega), h n (by omega)]
theorem negs_set {g : Nat → Int} {j : Nat} {c : Int} (hc : 0 ≤ c) (hj : g j < 0) : ∀ {n : Nat}, j < n → negs (fun i => if i = j then c else g i) n < negs g n
  | n + 1, h => by
    unfold negs
    by_cases e : n = j
    · subst e
      rw [negs_same (g := g) fun i hi => if_neg (by omega), if_pos rfl, if_neg (by omega), if_pos hj]
      omega
    · have := negs_set hc hj (n := n) (by omega)
      rw [if_neg e]
      omega

/-! ### Numbering by the least that can be reached -/
structure LI (E : List (BitVec 32)) (r : Nat) (l : Nat → Nat) : Prop where
  conn : ∀ i, i < E.length → Conn E i (l i)
  le : ∀ i, i < E.length → l i ≤ i
  low : ∀ i, i < E.length → ∀ m x, m ≤ r → WalkN E m i x → l i ≤ x
structure LM (E : List (BitVec 32)) (r : Nat) (l : Nat → Nat) (i j : Nat) : Prop where
  conn : ∀ i, i < E.length → Conn E i (l i)
  le : ∀ i, i < E.length → l i ≤ i
  low : ∀ i, i < E.length → ∀ m x, m ≤ r → WalkN E m i x → l i ≤ x
  done : ∀ k, k < i → k < E.length → ∀ m x, m ≤ r + 1 → WalkN E m k x → l k ≤ x
  part : ∀ y, y < j → nb E i y → ∀ m x, m ≤ r → WalkN E m y x → l i ≤ x
theorem LI.start (E : List (BitVec 32)) : LI E 0 (fun i => i) :=
  ⟨fun i _ => conn_refl E i, fun i _ => Nat.le_refl i, fun i _ m x hm hw => by
    obtain rfl : m = 0 := by omega
    exact Nat.le_of_eq hw⟩
theorem LI.mid {E : List (BitVec 32)} {r : Nat} {l : Nat → Nat} (h : LI E r l) : LM E r l 0 0 :=
  ⟨h.conn, h.le, h.low, fun k hk => by omega, fun y hy => by omega⟩
theorem LM.skip {E : List (BitVec 32)} {r i j : Nat} {l : Nat → Nat} (h : LM E r l i j) (hc : meetB (ed E i) (ed E j) = false ∨ ¬ l j < l i) : LM E r l i (j + 1) := by
  refine ⟨h.conn, h.le, h.low, h.done, fun y hy hn m x hm hw => ?_⟩
  rcases Nat.lt_or_ge y j with c | c
  · exact h.part y c hn m x hm hw
  · obtain rfl : y = j := by omega
    rcases hc with c | c
    · rw [hn.2.2] at c; cases c
    · have := h.low y hn.2.1 m x hm hw
      omega
theorem LM.upd {E : List (BitVec 32)} {r i j : Nat} {l : Nat → Nat} (h : LM E r l i j) (hi : i < E.length) (hj : j < E.length) (h1 : meetB (ed E i) (ed E j) = true) (h2 : l j < l i) : LM E r (fun k => if k = i then l j else l k) i (j + 1) := by
  have hne : j ≠ i := fun e => by subst e; omega
  refine ⟨fun k hk => ?_, fun k hk => ?_, fun k hk m x hm hw => ?_, fun k hk hk2 m x hm hw => ?_, fun y hy hn m x hm hw => ?_⟩
  · split
    · next e => subst e; exact conn_trans ⟨1, k, rfl, hk, hj, h1⟩ (h.conn j hj)
    · exact h.conn k hk
  · split
    · next e => subst e; have := h.le k hk; omega
    · exact h.le k hk
  · split
    · next e => subst e; have := h.low k hk m x hm hw; omega
    · exact h.low k hk m x hm hw
  · rw [if_neg (by omega)]; exact h.done k hk hk2 m x hm hw
  · rw [if_pos rfl]
    rcases Nat.lt_or_ge y j with c | c
    · have := h.part y c hn m x hm hw; omega
    · obtain rfl : y = j := by omega
      exact h.low y hj m x hm hw
theorem LM.next {E : List (BitVec 32)} {r i : Nat} {l : Nat → Nat} (h : LM E r l i E.length) : LM E r l (i + 1) 0 := by
  refine ⟨h.conn, h.le, h.low, fun k hk hk2 m x hm hw => ?_, fun y hy => by omega⟩
  rcases Nat.lt_or_ge k i with c | c
  · exact h.done k c hk2 m x hm hw
  · obtain rfl : k = i := by omega
    cases m with
    | zero => have : k = x := hw; subst this; exact h.le k hk2
    | succ m =>
      obtain ⟨y, hy, hw2⟩ := walk_front hw
      exact h.part y hy.2.1 hy m x (by omega) hw2
theorem LM.end_ {E : List (BitVec 32)} {r : Nat} {l : Nat → Nat} (h : LM E r l E.length 0) : LI E (r + 1) l :=
  ⟨h.conn, h.le, fun i hi m x hm hw => h.done i hi hi m x hm hw⟩
theorem LI.least {E : List (BitVec 32)} {l : Nat → Nat} (h : LI E E.length l) : ∀ i x, i < E.length → Conn E i x → l i ≤ x := fun i x hi hc => by
  obtain ⟨m, hm, hw⟩ := conn_short hi hc
  exact h.low i hi m x (by omega) hw
/-- The numbers of the first k. -/
structure NI (E : List (BitVec 32)) (k c : Nat) (o : Nat → Nat) : Prop where
  eqv : ∀ i j, i < k → j < k → (o i = o j ↔ Conn E i j)
  rng : ∀ i, i < k → o i < c
  led : ∀ m, m < c → ∃ j, j < k ∧ o j = m
  grow : ∀ i, i < k → ∀ m, m < o i → ∃ j, j < i ∧ o j = m
theorem NI.start (E : List (BitVec 32)) (o : Nat → Nat) : NI E 0 0 o := ⟨fun i j hi => by omega, fun i hi => by omega, fun m hm => by omega, fun i hi => by omega⟩
theorem NI.new {E : List (BitVec 32)} {k c : Nat} {o : Nat → Nat} {l : Nat → Nat} (h : NI E k c o) (hl : LI E E.length l) (hk : k < E.length) (he : l k = k) : NI E (k + 1) (c + 1) (fun i => if i = k then c else o i) := by
  have low : ∀ j, j < k → ¬ Conn E k j := fun j hj hc => by
    have := hl.least k j hk hc
    omega
  refine ⟨fun i j hi hj => ?_, fun i hi => ?_, fun m hm => ?_, fun i hi m hm => ?_⟩
  · by_cases e1 : i = k <;> by_cases e2 : j = k
    · subst e1 e2; simp [conn_refl]
    · subst e1
      rw [if_pos rfl, if_neg e2]
      have := h.rng j (by omega)
      exact ⟨fun e => by omega, fun e => absurd e (low j (by omega))⟩
    · subst e2
      rw [if_pos rfl, if_neg e1]
      have := h.rng i (by omega)
      exact ⟨fun e => by omega, fun e => absurd (conn_symm e) (low i (by omega))⟩
    · rw [if_neg e1, if_neg e2]; exact h.eqv i j (by omega) (by omega)
  · split
    · omega
    · have := h.rng i (by omega); omega
  · rcases Nat.lt_or_ge m c with a | a
    · obtain ⟨j, hj, e⟩ := h.led m a
      exact ⟨j, by omega, by rw [if_neg (by omega)]; exact e⟩
    · exact ⟨k, by omega, by rw [if_pos rfl]; omega⟩
  · by_cases e : i = k
    · rw [if_pos e] at hm
      obtain ⟨j, hj, e2⟩ := h.led m hm
      exact ⟨j, by omega, by rw [if_neg (by omega)]; exact e2⟩
    · rw [if_neg e] at hm
      obtain ⟨j, hj, e2⟩ := h.grow i (by omega) m hm
      exact ⟨j, hj, by rw [if_neg (by omega)]; exact e2⟩
theorem NI.old {E : List (BitVec 32)} {k c : Nat} {o : Nat → Nat} {l : Nat → Nat} (h : NI E k c o) (hl : LI E E.length l) (hk : k < E.length) (he : l k < k) : NI E (k + 1) c (fun i => if i = k then o (l k) else o i) := by
  have hc := hl.conn k hk
  have key : ∀ j, j < k → (o (l k) = o j ↔ Conn E k j) := fun j hj => by
    rw [h.eqv (l k) j he hj]
    exact ⟨fun a => conn_trans hc a, fun a => conn_trans (conn_symm hc) a⟩
  refine ⟨fun i j hi hj => ?_, fun i hi => ?_, fun m hm => ?_, fun i hi m hm => ?_⟩
  · by_cases e1 : i = k <;> by_cases e2 : j = k
    · subst e1 e2; simp [conn_refl]
    · subst e1
      rw [if_pos rfl, if_neg e2]; exact key j (by omega)
    · subst e2
      rw [if_pos rfl, if_neg e1]
      have := key i (by omega)
      exact ⟨fun e => conn_symm (this.1 e.symm), fun e => (this.2 (conn_symm e)).symm⟩
    · rw [if_neg e1, if_neg e2]; exact h.eqv i j (by omega) (by omega)
  · split
    · exact h.rng _ he
    · exact h.rng i (by omega)
  · obtain ⟨j, hj, e⟩ := h.led m hm
    exact ⟨j, by omega, by rw [if_neg (by omega)]; exact e⟩
  · by_cases e : i = k
    · rw [if_pos e] at hm
      obtain ⟨j, hj, e2⟩ := h.grow (l k) he m hm
      exact ⟨j, by omega, by rw [if_neg (by omega)]; exact e2⟩
    · rw [if_neg e] at hm
      obtain ⟨j, hj, e2⟩ := h.grow i (by omega) m hm
      exact ⟨j, hj, by rw [if_neg (by omega)]; exact e2⟩
theorem NI.end_ {E : List (BitVec 32)} {c : Nat} {o : Nat → Nat} (h : NI E E.length c o) : ∃ Z : List Nat, rowOf E.length (fun i => (o i : Int)) = Z.map Int.ofNat ∧ Z.length = E.length ∧ CompOf E (zed Z) E.length := by
  refine ⟨(List.range E.length).map o, ?_, by simp, ?_⟩
  · unfold rowOf
    rw [List.map_map]; rfl
  have hz : ∀ i, i < E.length → zed ((List.range E.length).map o) i = o i := fun i hi => by simp [zed, hi]
  refine ⟨fun i j hi hj => by rw [hz i hi, hz j hj]; exact h.eqv i j hi hj, fun i hi m hm => ?_⟩
  rw [hz i hi] at hm
  obtain ⟨j, hj, e⟩ := h.grow i hi m hm
  exact ⟨j, hj, by rw [hz j (by omega)]; exact e⟩
end Go.Proofs.YtaongngoacbodaaDoor
