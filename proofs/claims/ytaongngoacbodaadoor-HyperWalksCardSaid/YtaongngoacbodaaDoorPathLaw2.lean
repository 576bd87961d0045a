/- The plain law of paths, second part: the search by layers; the walk along it; making better. No program in sight. -/
import Derived.Test.YtaongngoacbodaaDoorPathLaw
namespace Go.Proofs.YtaongngoacbodaaDoor

theorem pigeon : ∀ (V : Nat) (l : List Nat), l.Nodup → (∀ x, x ∈ l → x < V) → l.length ≤ V
  | 0, l, _, h => by
    cases l with
    | nil => simp
    | cons a l => exact absurd (h a (by simp)) (by omega)
  | V + 1, l, hn, h => by
    have h1 : (l.erase V).length ≤ V := pigeon V _ (hn.erase V) fun x hx => by
      have := (hn.mem_erase_iff).1 hx
      have := h x this.2
      omega
    have h2 : l.length - 1 ≤ (l.erase V).length := by
      by_cases c : V ∈ l
      · rw [List.length_erase_of_mem c]; exact Nat.le_refl _
      · rw [List.erase_of_not_mem c]; omega
    omega
theorem bitsOf_mono {s t : BitVec 32} (h : ∀ i, t.getLsbD i = true → s.getLsbD i = true) (k : Nat) (hk : s.getLsbD k = true) (hk' : t.getLsbD k = false) : (bitsOf t).length < (bitsOf s).length := by
  have e : bitsOf t = (bitsOf s).filter fun v => t.getLsbD v := by
    refine sorted_ext _ _ (bitsOf_sorted _) (List.Pairwise.filter _ (bitsOf_sorted _)) fun x => ?_
    rw [List.mem_filter, mem_bitsOf, mem_bitsOf]
    exact ⟨fun hx => ⟨h x hx, hx⟩, fun hx => hx.2⟩
  rw [e]
  refine Nat.lt_of_le_of_ne (List.length_filter_le _ _) fun heq => ?_
  have := List.length_filter_eq_length_iff.1 heq k (mem_bitsOf.2 hk)
  rw [hk'] at this; cases this

section
variable {E : List (BitVec 32)} {src dst V : Nat} {inner inn : BitVec 32}

/-- What is given: vertices within V; 'inn' is 'inner' cut to what may stand between. -/
structure Given (E : List (BitVec 32)) (src dst V : Nat) (inner inn : BitVec 32) : Prop where
  edge : ∀ e, e ∈ E → ∀ u, e.getLsbD u = true → u < V
  hsrc : src < V
  hdst : dst < V
  ne : src ≠ dst
  small : V ≤ 30
  inn : ∀ u, inn.getLsbD u = true ↔ (inner.getLsbD u = true ∧ u ≠ src ∧ u ≠ dst ∧ u < V)
theorem Given.adj_lt (h : Given E src dst V inner inn) {v u : Nat} (ha : adj E v u) : v < V ∧ u < V := by
  obtain ⟨_, e, he, a, b⟩ := ha
  exact ⟨h.edge e he v a, h.edge e he u b⟩
theorem Given.inn_of_ok (h : Given E src dst V inner inn) {u : Nat} (h1 : okV src dst inner u) (h2 : u ≠ dst) (h3 : u < V) : inn.getLsbD u = true :=
  (h.inn u).2 ⟨h1.2.resolve_left h2, h1.1, h2, h3⟩
theorem Given.ok_of_inn (h : Given E src dst V inner inn) {u : Nat} (h1 : inn.getLsbD u = true) : okV src dst inner u := by
  obtain ⟨a, b, _, _⟩ := (h.inn u).1 h1
  exact ⟨b, .inr a⟩

/-- Where the search stands: 'f' the steps that are known, all numbers below n. -/
structure Inv (E : List (BitVec 32)) (src dst : Nat) (inner inn : BitVec 32) (n : Nat) (f : Nat → Nat) (layer seen : BitVec 32) : Prop where
  lo : 1 ≤ n
  a : ∀ v, f v ≠ 0 → f v < n ∧ RMin E src dst inner (f v) v
  b : ∀ v m, (v = src ∨ inn.getLsbD v = true) → 1 ≤ m → m < n → RMin E src dst inner m v → f v = m
  c : ∀ v, seen.getLsbD v = true ↔ (v = dst ∨ f v ≠ 0)
  d : ∀ v, layer.getLsbD v = true ↔ (okV src dst inner v ∧ RMin E src dst inner (n - 1) v)

theorem getLsbD_one_shl (k i : Nat) (hk : k < 32) : (1#32 <<< k).getLsbD i = decide (i = k) := by
  rw [BitVec.getLsbD_shiftLeft]
  rcases Nat.lt_trichotomy i k with c | c | c
  · simp [c, show ¬ i = k by omega]
  · subst c; simp [hk]
  · have : i - k ≠ 0 := by omega
    simp [show ¬ i < k by omega, show ¬ i = k by omega, this]

theorem Inv.start (h : Given E src dst V inner inn) : Inv E src dst inner inn 1 (fun _ => 0) (1#32 <<< dst) (1#32 <<< dst) := by
  have hd : dst < 32 := by have := h.hdst; have := h.small; omega
  refine ⟨Nat.le_refl _, fun v hv => absurd rfl hv, fun v m _ h1 h2 _ => by omega, fun v => ?_, fun v => ?_⟩
  · rw [getLsbD_one_shl _ _ hd]; simp
  · rw [getLsbD_one_shl _ _ hd, show 1 - 1 = 0 from rfl, rmin_zero]
    simp only [decide_eq_true_eq]
    exact ⟨fun e => ⟨⟨by rw [e]; exact h.ne.symm, .inl e⟩, e⟩, fun e => e.2⟩

/-- The next layer, before what may not be passed is taken out. -/
def nearAll (E : List (BitVec 32)) (s : BitVec 32) : BitVec 32 := orAll ((bitsOf s).map fun (v : Nat) => nearS E (v : Int))
theorem nearAll_iff (E : List (BitVec 32)) (s : BitVec 32) (v : Nat) : (nearAll E s).getLsbD v = true ↔ ∃ u, s.getLsbD u = true ∧ adj E u v := by
  unfold nearAll
  rw [getLsbD_orAll, List.any_eq_true]
  constructor
  · rintro ⟨x, hx, hv⟩
    obtain ⟨u, hu, rfl⟩ := List.mem_map.1 hx
    exact ⟨u, mem_bitsOf.1 hu, (nearS_iff E u v).1 hv⟩
  · rintro ⟨u, hu, ha⟩
    exact ⟨_, List.mem_map.2 ⟨u, mem_bitsOf.2 hu, rfl⟩, (nearS_iff E u v).2 ha⟩
def nextL (E : List (BitVec 32)) (src : Nat) (inn layer seen : BitVec 32) : BitVec 32 := nearAll E layer &&& ((inn ||| 1#32 <<< src) &&& ~~~seen)
theorem Inv.next_iff (h : Given E src dst V inner inn) {n : Nat} {f : Nat → Nat} {layer seen : BitVec 32} (hi : Inv E src dst inner inn n f layer seen) (v : Nat) :
    (nextL E src inn layer seen).getLsbD v = true ↔ (RMin E src dst inner n v ∧ (v = src ∨ okV src dst inner v)) := by
  have hs : src < 32 := by have := h.hsrc; have := h.small; omega
  have hlo := hi.lo
  unfold nextL
  rw [BitVec.getLsbD_and, BitVec.getLsbD_and, BitVec.getLsbD_or, getLsbD_one_shl _ _ hs, BitVec.getLsbD_not, Bool.and_eq_true, nearAll_iff, Bool.and_eq_true, Bool.or_eq_true, Bool.and_eq_true, decide_eq_true_eq, decide_eq_true_eq, Bool.not_eq_true']
  constructor
  · rintro ⟨⟨u, hu, ha⟩, hadm, hv, hns⟩
    obtain ⟨ho, hr⟩ := (hi.d u).1 hu
    have hnd : v ≠ dst := fun e => by
      have := (hi.c v).2 (.inl e)
      rw [hns] at this; cases this
    have hadm' : v = src ∨ inn.getLsbD v = true := hadm.symm
    refine ⟨?_, hadm'.imp id h.ok_of_inn⟩
    have := rmin_succ_of hnd (adj_symm ha) ho hr fun m hm hrm => ?_
    · rwa [Nat.sub_add_cancel hlo] at this
    · rcases Nat.eq_zero_or_pos m with e | e
      · subst e; exact hnd (rmin_zero.1 hrm)
      · have hf := hi.b v m hadm' e (by omega) hrm
        have := (hi.c v).2 (.inr (by omega))
        rw [hns] at this; cases this
  · rintro ⟨hr, hadm⟩
    obtain ⟨k, rfl⟩ : ∃ k, n = k + 1 := ⟨n - 1, by omega⟩
    obtain ⟨hnd, u, ha, ho, hru⟩ := rmin_succ hr
    have hvlt := (h.adj_lt ha).1
    refine ⟨⟨u, (hi.d u).2 ⟨ho, by simpa using hru⟩, adj_symm ha⟩, ?_, by have := h.small; omega, ?_⟩
    · rcases hadm with e | e
      · exact .inr e
      · exact .inl (h.inn_of_ok e hnd hvlt)
    · cases hseen : seen.getLsbD v
      · rfl
      · rcases (hi.c v).1 hseen with e | e
        · exact absurd e hnd
        · have := (hi.a v e)
          have := rmin_uniq hr this.2
          omega
theorem Inv.step (h : Given E src dst V inner inn) {n : Nat} {f : Nat → Nat} {layer seen : BitVec 32} (hi : Inv E src dst inner inn n f layer seen) :
    Inv E src dst inner inn (n + 1) (fun v => if (nextL E src inn layer seen).getLsbD v = true then n else f v) (nextL E src inn layer seen &&& ~~~(1#32 <<< src)) (seen ||| nextL E src inn layer seen) := by
  have hs : src < 32 := by have := h.hsrc; have := h.small; omega
  have hlo := hi.lo
  have key := hi.next_iff h
  generalize hN : nextL E src inn layer seen = N at key
  refine ⟨by omega, fun v hv => ?_, fun v m hadm h1 h2 hr => ?_, fun v => ?_, fun v => ?_⟩
  · by_cases c : N.getLsbD v = true
    · rw [if_pos c]; exact ⟨by omega, ((key v).1 c).1⟩
    · rw [if_neg c] at hv ⊢
      have := hi.a v hv
      exact ⟨by omega, this.2⟩
  · by_cases c : N.getLsbD v = true
    · rw [if_pos c]; exact rmin_uniq ((key v).1 c).1 hr
    · rw [if_neg c]
      rcases Nat.lt_or_ge m n with e | e
      · exact hi.b v m hadm h1 e hr
      · obtain rfl : m = n := by omega
        exact absurd ((key v).2 ⟨hr, hadm.imp id h.ok_of_inn⟩) c
  · rw [BitVec.getLsbD_or, Bool.or_eq_true, hi.c]
    by_cases c : N.getLsbD v = true
    · simp only [c, if_true, or_true, true_iff]
      exact .inr (by omega)
    · simp only [c, if_false, or_false, Bool.false_eq_true]
  · rw [BitVec.getLsbD_and, BitVec.getLsbD_not, getLsbD_one_shl _ _ hs, Bool.and_eq_true, key, Bool.and_eq_true, decide_eq_true_eq, Bool.not_eq_true', decide_eq_false_iff_not, show n + 1 - 1 = n by omega]
    constructor
    · rintro ⟨⟨hr, hadm⟩, _, hne⟩
      exact ⟨hadm.resolve_left hne, hr⟩
    · rintro ⟨ho, hr⟩
      obtain ⟨k, rfl⟩ : ∃ k, n = k + 1 := ⟨n - 1, by omega⟩
      obtain ⟨_, u, ha, _, _⟩ := rmin_succ hr
      have := (h.adj_lt ha).1
      exact ⟨⟨hr, .inr ho⟩, by have := h.small; omega, ho.1⟩
/-- Nothing more is found: there is no list. -/
theorem Inv.none (h : Given E src dst V inner inn) {n : Nat} {f : Nat → Nat} {seen : BitVec 32} (hi : Inv E src dst inner inn n f 0#32 seen) (h0 : f src = 0) : ∀ p, IsP E src dst inner p → p.head? ≠ some src := by
  intro p hp hh
  match p, hp, hh with
  | v :: r, hp, hh =>
    obtain rfl : v = src := by simpa using hh
    obtain ⟨m, _, hm⟩ := rmin_of_reach (E := E) (src := v) (dst := dst) (inner := inner) (v := v) ⟨r, hp, rfl⟩
    rcases Nat.eq_zero_or_pos m with e | e
    · subst e; exact h.ne (rmin_zero.1 hm)
    · rcases Nat.lt_or_ge m n with c | c
      · have := hi.b v m (.inl rfl) e c hm
        omega
      · have hlo := hi.lo
        obtain ⟨u, ho, hu⟩ := rmin_down hm (show n - 1 < m by omega)
        have := (hi.d u).2 ⟨ho, hu⟩
        simp at this
/-- How many rounds are still to come at most. -/
def roundsLeft (layer seen : BitVec 32) : Nat := if layer = 0#32 then 0 else 1 + (bitsOf (~~~seen)).length
theorem roundsLeft_step (E : List (BitVec 32)) (src : Nat) (inn layer seen : BitVec 32) (hl : layer ≠ 0#32) :
    roundsLeft (nextL E src inn layer seen &&& ~~~(1#32 <<< src)) (seen ||| nextL E src inn layer seen) < roundsLeft layer seen := by
  unfold roundsLeft
  rw [if_neg hl]
  split
  · omega
  · rename_i hne
    have hne' : nextL E src inn layer seen ≠ 0#32 := fun e => hne (by rw [e]; simp)
    have hb := (ctz_spec _ hne').1
    have hcl := lt_of_bit hb
    have hns : seen.getLsbD (ctz (nextL E src inn layer seen)) = false := by
      have hb' := hb
      unfold nextL at hb'
      rw [BitVec.getLsbD_and, BitVec.getLsbD_and, BitVec.getLsbD_not] at hb'
      simp only [Bool.and_eq_true, Bool.not_eq_true'] at hb'
      exact hb'.2.2.2
    have : (bitsOf (~~~(seen ||| nextL E src inn layer seen))).length < (bitsOf (~~~seen)).length := by
      refine bitsOf_mono (fun i hi => ?_) (ctz (nextL E src inn layer seen)) ?_ ?_
      · have := lt_of_bit hi
        simp only [BitVec.getLsbD_not, BitVec.getLsbD_or, this, decide_true, Bool.true_and, Bool.not_or, Bool.and_eq_true] at hi ⊢
        exact hi.1
      · rw [BitVec.getLsbD_not, hns]; simp [hcl]
      · rw [BitVec.getLsbD_not, BitVec.getLsbD_or, hb]; simp
    omega

/-! ### Along the numbers -/
/-- The least neighbour that may be passed and is d steps from the end. -/
def pickV (E : List (BitVec 32)) (inn : BitVec 32) (f : Nat → Nat) (d v : Nat) : Nat := ((bitsOf (nearS E (v : Int) &&& inn)).find? fun u => f u == d).getD 0
/-- The way that is taken: d steps from v. -/
def gr (E : List (BitVec 32)) (dst : Nat) (inn : BitVec 32) (f : Nat → Nat) : Nat → Nat → List Nat
  | 0, v => [v]
  | 1, v => [v, dst]
  | d + 2, v => v :: gr E dst inn f (d + 1) (pickV E inn f (d + 1) v)
theorem find_least {l : List Nat} {p : Nat → Bool} {x : Nat} (hl : l.Pairwise (· < ·)) (h : l.find? p = some x) : p x = true ∧ x ∈ l ∧ ∀ y, y ∈ l → p y = true → x ≤ y := by
  refine ⟨List.find?_some h, List.mem_of_find?_eq_some h, fun y hy hp => ?_⟩
  induction l with
  | nil => cases hy
  | cons a l ih =>
    rw [List.pairwise_cons] at hl
    by_cases c : p a = true
    · rw [List.find?_cons_of_pos c] at h
      obtain rfl : a = x := by simpa using h
      rcases List.mem_cons.1 hy with e | e
      · omega
      · have := hl.1 y e; omega
    · rw [List.find?_cons_of_neg c] at h
      rcases List.mem_cons.1 hy with e | e
      · subst e; exact absurd hp c
      · exact ih hl.2 h e
theorem pick_spec (h : Given E src dst V inner inn) {n : Nat} {f : Nat → Nat} {layer seen : BitVec 32} (hi : Inv E src dst inner inn n f layer seen) {d v : Nat} (hd : 1 ≤ d) (hdn : d < n) (hr : RMin E src dst inner (d + 1) v) :
    ∃ u, (bitsOf (nearS E (v : Int) &&& inn)).find? (fun u => f u == d) = some u ∧ pickV E inn f d v = u ∧ adj E v u ∧ inn.getLsbD u = true ∧ f u = d ∧ RMin E src dst inner d u ∧ ∀ y, adj E v y → okV src dst inner y → RMin E src dst inner d y → u ≤ y := by
  have ex : ∀ y, adj E v y → okV src dst inner y → RMin E src dst inner d y → y ∈ bitsOf (nearS E (v : Int) &&& inn) ∧ f y = d := by
    intro y ha ho hy
    have hyd : y ≠ dst := fun e => by
      subst e
      have := rmin_uniq hy (rmin_zero.2 rfl)
      omega
    have hin := h.inn_of_ok ho hyd (h.adj_lt ha).2
    refine ⟨mem_bitsOf.2 ?_, hi.b y d (.inr hin) hd hdn hy⟩
    rw [BitVec.getLsbD_and, hin, (nearS_iff E v y).2 ha]; rfl
  obtain ⟨_, y, ha, ho, hy⟩ := rmin_succ hr
  cases hf : (bitsOf (nearS E (v : Int) &&& inn)).find? fun u => f u == d with
  | none =>
    have := List.find?_eq_none.1 hf y (ex y ha ho hy).1
    exact absurd (beq_iff_eq.2 (ex y ha ho hy).2) this
  | some u =>
    obtain ⟨h1, h2, h3⟩ := find_least (bitsOf_sorted _) hf
    have h1' : f u = d := beq_iff_eq.1 h1
    have h2' := mem_bitsOf.1 h2
    rw [BitVec.getLsbD_and, Bool.and_eq_true] at h2'
    refine ⟨u, rfl, by unfold pickV; rw [hf]; rfl, (nearS_iff E v u).1 h2'.1, h2'.2, h1', ?_, fun z a o r => h3 z (ex z a o r).1 (beq_iff_eq.2 (ex z a o r).2)⟩
    have := (hi.a u (by omega)).2
    rwa [h1'] at this
theorem gr_best (h : Given E src dst V inner inn) {n : Nat} {f : Nat → Nat} {layer seen : BitVec 32} (hi : Inv E src dst inner inn n f layer seen) :
    ∀ d, 1 ≤ d → d ≤ n → ∀ v, RMin E src dst inner d v → IsP E src dst inner (gr E dst inn f d v) ∧ (gr E dst inn f d v).head? = some v ∧ (gr E dst inn f d v).length = d + 1 ∧
      ∀ q, IsP E src dst inner q → q.head? = some v → lessL q (gr E dst inn f d v) = false
  | 0, h0, _, _, _ => by omega
  | 1, _, _, v, hr => by
    obtain ⟨hv, u, ha, ho, hu⟩ := rmin_succ hr
    obtain rfl : u = dst := rmin_zero.1 hu
    refine ⟨⟨hv, ha, ho, rfl⟩, rfl, rfl, fun q hq hh => ?_⟩
    match q, hq, hh with
    | [x], hq, hh =>
      obtain rfl : x = v := by simpa using hh
      exact absurd hq hv
    | [x, y], hq, hh =>
      obtain rfl : x = v := by simpa using hh
      obtain rfl : y = u := hq.2.2.2
      exact lessL_irrefl _
    | x :: y :: z :: r, _, _ => simp [lessL, gr]
  | d + 2, _, hdn, v, hr => by
    obtain ⟨w, _, hpick, ha, hin, hfw, hrw, hmin⟩ := pick_spec h hi (show 1 ≤ d + 1 by omega) (by omega) hr
    obtain ⟨i1, i2, i3, i4⟩ := gr_best h hi (d + 1) (by omega) (by omega) w hrw
    have hv := (rmin_succ hr).1
    have e : gr E dst inn f (d + 2) v = v :: gr E dst inn f (d + 1) w := by rw [← hpick]; rfl
    rw [e]
    have hcons : ∃ r, gr E dst inn f (d + 1) w = w :: r := by
      cases hg : gr E dst inn f (d + 1) w with
      | nil => rw [hg] at i2; cases i2
      | cons a r => rw [hg] at i2; obtain rfl : a = w := by simpa using i2
                    exact ⟨r, rfl⟩
    obtain ⟨r0, hr0⟩ := hcons
    refine ⟨?_, rfl, by simp [i3], fun q hq hh => ?_⟩
    · rw [hr0] at i1 ⊢
      exact ⟨hv, ha, h.ok_of_inn hin, i1⟩
    · match q, hq, hh with
      | [x], hq, hh =>
        obtain rfl : x = v := by simpa using hh
        exact absurd hq hv
      | x :: y :: r, hq, hh =>
        obtain rfl : x = v := by simpa using hh
        rw [lessL_cons]
        obtain ⟨_, hay, hoy, hqy⟩ := hq
        have hlen : d + 1 ≤ r.length := by
          rcases Nat.lt_or_ge r.length (d + 1) with c | c
          · exact absurd (reach_succ.2 ⟨hv, y, hay, hoy, r, hqy, rfl⟩) (hr.2 (r.length + 1) (by omega))
          · exact c
        rcases Nat.lt_or_ge (d + 1) r.length with c | c
        · unfold lessL
          rw [if_neg (by rw [i3]; simp; omega), i3]
          simp; omega
        · have hy : RMin E src dst inner (d + 1) y := by
            refine ⟨⟨r, hqy, by omega⟩, fun m hm hrm => ?_⟩
            exact hr.2 (m + 1) (by omega) (reach_succ.2 ⟨hv, y, hay, hoy, hrm⟩)
          have hle := hmin y hay hoy hy
          rcases Nat.lt_or_ge w y with c2 | c2
          · rw [hr0]
            rw [hr0] at i3
            have i3' : r0.length = d + 1 := by simpa using i3
            have e1 : (y :: r).length = (w :: r0).length := by simp; omega
            unfold lessL
            rw [if_pos e1]
            unfold lexLt
            rw [if_neg (by omega)]
            simp; omega
          · obtain rfl : y = w := by omega
            exact i4 _ hqy rfl
theorem gr_is_best (h : Given E src dst V inner inn) {n : Nat} {f : Nat → Nat} {layer seen : BitVec 32} (hi : Inv E src dst inner inn n f layer seen) (h0 : f src ≠ 0) : Best E src dst inner (gr E dst inn f (f src) src) := by
  obtain ⟨h1, h2⟩ := hi.a src h0
  obtain ⟨a, b, _, d⟩ := gr_best h hi (f src) (by omega) (by omega) src h2
  exact ⟨a, b, d⟩

/-! ### Making better -/
def leastL (a b : List Nat) : List Nat := if a = [] ∨ (b ≠ [] ∧ lessL b a = true) then b else a
theorem leastL_left (a b : List Nat) (ha : a ≠ []) : lessL a (leastL a b) = false := by
  unfold leastL
  split
  · rename_i h
    rcases h with h | h
    · exact absurd h ha
    · exact lessL_asymm _ _ h.2
  · exact lessL_irrefl _
theorem leastL_right (a b : List Nat) (hb : b ≠ []) : lessL b (leastL a b) = false := by
  unfold leastL
  split
  · exact lessL_irrefl _
  · rename_i h
    cases c : lessL b a
    · rfl
    · exact absurd (.inr ⟨hb, c⟩) h
theorem leastL_ne (a b : List Nat) (h : a ≠ [] ∨ b ≠ []) : leastL a b ≠ [] := by
  unfold leastL
  split
  · rename_i c
    rcases c with c | c
    · exact h.resolve_left (fun e => e c)
    · exact c.1
  · rename_i c
    intro e; exact c (.inl e)
/-- The lists are lists, and none of at most r + 1 vertices is better. -/
structure Bst (E : List (BitVec 32)) (src dst V : Nat) (inner : BitVec 32) (r : Nat) (b : Nat → List Nat) : Prop where
  is : ∀ v, b v ≠ [] → IsP E src dst inner (b v) ∧ (b v).head? = some v
  low : ∀ v, v < V → ∀ q, IsP E src dst inner q → q.head? = some v → q.length ≤ r + 1 → b v ≠ [] ∧ lessL q (b v) = false
/-- In the midst of a round: v is being looked at, with all up to w. -/
structure Mid (E : List (BitVec 32)) (src dst V : Nat) (inner : BitVec 32) (r : Nat) (b : Nat → List Nat) (v w : Nat) : Prop where
  is : ∀ v, b v ≠ [] → IsP E src dst inner (b v) ∧ (b v).head? = some v
  low : ∀ v, v < V → ∀ q, IsP E src dst inner q → q.head? = some v → q.length ≤ r + 1 → b v ≠ [] ∧ lessL q (b v) = false
  done : ∀ u, u < v → ∀ q, IsP E src dst inner q → q.head? = some u → q.length ≤ r + 2 → b u ≠ [] ∧ lessL q (b u) = false
  part : ∀ y q, y < w → IsP E src dst inner (v :: y :: q) → q.length ≤ r → b v ≠ [] ∧ lessL (v :: y :: q) (b v) = false
theorem Bst.start (hd : dst < V) : Bst E src dst V inner 0 (fun v => if v = dst then [dst] else []) := by
  refine ⟨fun v hv => ?_, fun v _ q hq hh hl => ?_⟩
  · by_cases c : v = dst
    · subst c; simp [IsP]
    · simp [c] at hv
  · match q, hq, hh, hl with
    | [x], hq, hh, _ =>
      obtain rfl : x = v := by simpa using hh
      obtain rfl : x = dst := hq
      simp [lessL_irrefl]
    | x :: y :: r, _, _, hl => simp at hl
theorem Bst.mid {r : Nat} {b : Nat → List Nat} (h : Bst E src dst V inner r b) : Mid E src dst V inner r b 0 0 :=
  ⟨h.is, h.low, fun u hu => by omega, fun y q hy => by omega⟩
theorem Mid.next (h : Given E src dst V inner inn) {r v : Nat} {b : Nat → List Nat} (hm : Mid E src dst V inner r b v V) (hv : v < V) : Mid E src dst V inner r b (v + 1) 0 := by
  refine ⟨hm.is, hm.low, fun u hu q hq hh hl => ?_, fun y q hy => by omega⟩
  rcases Nat.lt_or_ge u v with c | c
  · exact hm.done u c q hq hh hl
  · obtain rfl : u = v := by omega
    match q, hq, hh, hl with
    | [x], hq, hh, _ => exact hm.low u hv [x] hq hh (by simp)
    | x :: y :: q, hq, hh, hl =>
      obtain rfl : x = u := by simpa using hh
      exact hm.part y q (h.adj_lt hq.2.1).2 hq (by simpa using hl)
theorem Mid.end_ {r : Nat} {b : Nat → List Nat} (hm : Mid E src dst V inner r b V 0) : Bst E src dst V inner (r + 1) b :=
  ⟨hm.is, fun v hv q hq hh hl => hm.done v hv q hq hh (by omega)⟩
/-- The look at v and w finds nothing to do. -/
theorem Mid.skip {r v w : Nat} {b : Nat → List Nat} (hm : Mid E src dst V inner r b v w) (hw : w < V) (hc : v = dst ∨ b w = [] ∨ ¬ adj E v w ∨ ¬ okV src dst inner w) : Mid E src dst V inner r b v (w + 1) := by
  refine ⟨hm.is, hm.low, hm.done, fun y q hy hq hl => ?_⟩
  rcases Nat.lt_or_ge y w with c | c
  · exact hm.part y q c hq hl
  · obtain rfl : y = w := by omega
    exfalso
    rcases hc with e | e | e | e
    · exact hq.1 e
    · exact (hm.low y hw (y :: q) hq.2.2.2 rfl (by simpa using hl)).1 e
    · exact e hq.2.1
    · exact e hq.2.2.1
def upd (b : Nat → List Nat) (v : Nat) (x : List Nat) : Nat → List Nat := fun u => if u = v then x else b u
theorem Mid.better {r v w : Nat} {b : Nat → List Nat} (hm : Mid E src dst V inner r b v w) (hw : w < V) (h1 : v ≠ dst) (h2 : b w ≠ []) (h3 : adj E v w) (h4 : okV src dst inner w) :
    Mid E src dst V inner r (upd b v (leastL (b v) (v :: b w))) v (w + 1) := by
  have hne : leastL (b v) (v :: b w) ≠ [] := leastL_ne _ _ (.inr (by simp))
  have keep : ∀ q, (b v ≠ [] ∧ lessL q (b v) = false) → upd b v (leastL (b v) (v :: b w)) v ≠ [] ∧ lessL q (upd b v (leastL (b v) (v :: b w)) v) = false := by
    rintro q ⟨a, c⟩
    simp only [upd, if_true]
    exact ⟨hne, lessL_not_trans _ _ _ (leastL_left _ _ a) c⟩
  have keepAll : ∀ u q, (b u ≠ [] ∧ lessL q (b u) = false) → upd b v (leastL (b v) (v :: b w)) u ≠ [] ∧ lessL q (upd b v (leastL (b v) (v :: b w)) u) = false := by
    intro u q hq
    by_cases c : u = v
    · subst c; exact keep q hq
    · simp only [upd, if_neg c]; exact hq
  refine ⟨fun u hu => ?_, fun u hu q a c d => keepAll u q (hm.low u hu q a c d), fun u hu q a c d => keepAll u q (hm.done u hu q a c d), fun y q hy hq hl => ?_⟩
  · by_cases c : u = v
    · subst c
      simp only [upd, if_true] at hu ⊢
      have hcand : IsP E src dst inner (u :: b w) ∧ (u :: b w).head? = some u := by
        obtain ⟨a, d⟩ := hm.is w h2
        cases hb : b w with
        | nil => exact absurd hb h2
        | cons x s =>
          rw [hb] at a d
          obtain rfl : x = w := by simpa using d
          exact ⟨⟨h1, h3, h4, a⟩, rfl⟩
      unfold leastL at hu ⊢
      split
      · exact hcand
      · rename_i hc
        exact hm.is u (fun e => hc (.inl e))
    · simp only [upd, if_neg c] at hu ⊢
      exact hm.is u hu
  · rcases Nat.lt_or_ge y w with c | c
    · exact keep _ (hm.part y q c hq hl)
    · obtain rfl : y = w := by omega
      simp only [upd, if_true]
      refine ⟨hne, lessL_not_trans _ (v :: b y) _ (leastL_right _ _ (by simp)) ?_⟩
      rw [lessL_cons]
      exact (hm.low y hw (y :: q) hq.2.2.2 rfl (by simpa using hl)).2
/-- A shortest list has at most as many vertices as there are. -/
theorem rmin_small (h : Given E src dst V inner inn) {n v : Nat} (hv : v < V) (hr : RMin E src dst inner n v) : n < V := by
  have hex : ∀ m, m ≤ n → ∃ u, u < V ∧ RMin E src dst inner m u := by
    intro m hm
    rcases Nat.lt_or_ge m n with c | c
    · obtain ⟨u, _, hu⟩ := rmin_down hr c
      refine ⟨u, ?_, hu⟩
      cases m with
      | zero => rw [rmin_zero.1 hu]; exact h.hdst
      | succ m =>
        obtain ⟨_, z, ha, _, _⟩ := rmin_succ hu
        exact (h.adj_lt ha).1
    · obtain rfl : m = n := by omega
      exact ⟨v, hv, hr⟩
  have key : ∀ k, k ≤ n + 1 → ∃ l : List Nat, l.length = k ∧ l.Nodup ∧ ∀ x, x ∈ l → x < V ∧ ∃ m, m < k ∧ RMin E src dst inner m x := by
    intro k
    induction k with
    | zero => intro _; exact ⟨[], rfl, List.nodup_nil, fun x hx => by cases hx⟩
    | succ k ih =>
      intro hk
      obtain ⟨l, hl, hn, hx⟩ := ih (by omega)
      obtain ⟨u, hu, hru⟩ := hex k (by omega)
      refine ⟨u :: l, by simp [hl], List.nodup_cons.2 ⟨fun hm => ?_, hn⟩, fun x hm => ?_⟩
      · obtain ⟨_, m, hmk, hrm⟩ := hx u hm
        have := rmin_uniq hru hrm
        omega
      · rcases List.mem_cons.1 hm with e | e
        · subst e; exact ⟨hu, k, by omega, hru⟩
        · obtain ⟨a, m, b, c⟩ := hx x e
          exact ⟨a, m, by omega, c⟩
  obtain ⟨l, hl, hn, hx⟩ := key (n + 1) (Nat.le_refl _)
  have := pigeon V l hn fun x hm => (hx x hm).1
  omega
theorem Bst.best (h : Given E src dst V inner inn) {b : Nat → List Nat} (hb : Bst E src dst V inner V b) : (b src = [] ∧ ∀ p, IsP E src dst inner p → p.head? ≠ some src) ∨ Best E src dst inner (b src) := by
  have short : ∀ q, IsP E src dst inner q → q.head? = some src → b src ≠ [] ∧ lessL q (b src) = false := by
    intro q hq hh
    match q, hq, hh with
    | x :: r, hq, hh =>
      obtain rfl : x = src := by simpa using hh
      obtain ⟨m, hm, hr⟩ := rmin_of_reach (E := E) (src := x) (dst := dst) (inner := inner) (v := x) ⟨r, hq, rfl⟩
      have hsm := rmin_small h h.hsrc hr
      obtain ⟨r', hq', hl'⟩ := hr.1
      obtain ⟨a, c⟩ := hb.low x h.hsrc (x :: r') hq' rfl (by simp; omega)
      refine ⟨a, ?_⟩
      rcases Nat.lt_or_ge V r.length with d | d
      · have h5 : (b x).length ≤ r'.length + 1 := by
          unfold lessL at c
          split at c
          · rename_i e; simp at e; omega
          · simp at c; omega
        unfold lessL
        rw [if_neg (by simp; omega)]
        simp; omega
      · exact (hb.low x h.hsrc (x :: r) hq rfl (by simp; omega)).2
  by_cases h0 : b src = []
  · exact .inl ⟨h0, fun p hp hh => (short p hp hh).1 h0⟩
  · obtain ⟨a, c⟩ := hb.is src h0
    exact .inr ⟨a, c, fun q hq hh => (short q hq hh).2⟩
end
end Go.Proofs.YtaongngoacbodaaDoor
