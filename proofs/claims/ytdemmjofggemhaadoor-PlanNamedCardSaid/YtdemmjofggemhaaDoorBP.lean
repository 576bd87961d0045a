/- Several texts in one: PathLaw PathLaw2 PathLaw3. -/
import Derived.Test.YtdemmjofggemhaaDoorBA
/- The plain law of paths: the least of the shortest lists that lead to an end; what a search by layers finds, and what making better as long as it can be finds. No program in sight. -/
namespace Go.Proofs.YtdemmjofggemhaaDoor

/-! ### The vertices of a set, rising -/
def bitsOf (s : BitVec 32) : List Nat := (List.range 32).filter fun v => s.getLsbD v
theorem mem_bitsOf {s : BitVec 32} {v : Nat} : v ∈ bitsOf s ↔ s.getLsbD v = true := by
  unfold bitsOf
  rw [List.mem_filter, List.mem_range]
  refine ⟨fun h => h.2, fun h => ⟨?_, h⟩⟩
  rcases Nat.lt_or_ge v 32 with c | c
  · exact c
  · rw [BitVec.getLsbD_of_ge _ _ c] at h; cases h
theorem lt_of_bit {s : BitVec 32} {v : Nat} (h : s.getLsbD v = true) : v < 32 := by
  rcases Nat.lt_or_ge v 32 with c | c
  · exact c
  · rw [BitVec.getLsbD_of_ge _ _ c] at h; cases h
theorem bitsOf_zero : bitsOf 0#32 = [] := by decide
theorem bitsOf_sorted (s : BitVec 32) : (bitsOf s).Pairwise (· < ·) := by
  unfold bitsOf
  exact List.Pairwise.filter _ List.pairwise_lt_range
theorem ctz_spec (s : BitVec 32) (h : s ≠ 0#32) : s.getLsbD (ctz s) = true ∧ (∀ i, i < ctz s → s.getLsbD i = false) ∧ ∀ i, (s &&& (s - 1#32)).getLsbD i = (decide (ctz s < i) && s.getLsbD i) := by
  have hx0 : 0 < s.toNat := by
    rcases Nat.eq_zero_or_pos s.toNat with c | c
    · exact absurd (BitVec.eq_of_toNat_eq (by simpa using c)) h
    · exact c
  have hc : ctz s = Lib.ctzFrom 32 s.toNat := by unfold ctz Lib.ctz; rw [if_neg (by omega)]
  obtain ⟨m, hm, hk⟩ := Lib.ctzFrom_spec 32 s.toNat hx0 s.isLt
  rw [← hc] at hm hk
  generalize ctz s = k at hm hk
  have bit : ∀ i, s.getLsbD i = if i < k then false else if i = k then true else m.testBit (i - k - 1) := by
    intro i
    rw [BitVec.getLsbD, hm, Nat.testBit_two_pow_mul]
    rcases Nat.lt_trichotomy i k with c | c | c
    · simp [c, show ¬ k ≤ i by omega]
    · subst c; simp [Nat.testBit_zero]
    · have : i - k = (i - k - 1) + 1 := by omega
      rw [if_neg (by omega), if_neg (by omega), this, Nat.testBit_succ]
      simp [show k ≤ i by omega]
      congr 1
      omega
  have bit1 : ∀ i, (s - 1#32).getLsbD i = if i < k then true else if i = k then false else m.testBit (i - k - 1) := by
    intro i
    have h1 : (s - 1#32).toNat = 2 ^ k * (2 * m) + (2 ^ k - 1) := by
      rw [BitVec.toNat_sub]
      have := s.isLt
      have h2 := Nat.two_pow_pos k
      have h3 : 2 ^ k * (2 * m + 1) = 2 ^ k * (2 * m) + 2 ^ k := by rw [Nat.mul_add]; simp
      simp
      omega
    rw [BitVec.getLsbD, h1, Nat.testBit_two_pow_mul_add _ (by have := Nat.two_pow_pos k; omega)]
    rcases Nat.lt_trichotomy i k with c | c | c
    · simp [c, Nat.testBit_two_pow_sub_one]
    · subst c; simp [Nat.testBit_zero]
    · rw [if_neg (by omega), if_neg (by omega), if_neg (by omega)]
      have : i - k = (i - k - 1) + 1 := by omega
      rw [this, Nat.testBit_succ]
      congr 1
      omega
  refine ⟨by rw [bit]; simp, fun i hi => by rw [bit, if_pos hi], fun i => ?_⟩
  rw [BitVec.getLsbD_and, bit1, bit]
  rcases Nat.lt_trichotomy i k with c | c | c
  · simp [c, show ¬ k < i by omega]
  · subst c; simp
  · simp [c, show ¬ i < k by omega, show ¬ i = k by omega]
theorem sorted_ext : ∀ (l r : List Nat), l.Pairwise (· < ·) → r.Pairwise (· < ·) → (∀ x, x ∈ l ↔ x ∈ r) → l = r
  | [], [], _, _, _ => rfl
  | [], b :: r, _, _, h => absurd ((h b).2 (by simp)) (by simp)
  | a :: l, [], _, _, h => absurd ((h a).1 (by simp)) (by simp)
  | a :: l, b :: r, hl, hr, h => by
    rw [List.pairwise_cons] at hl hr
    have hab : a = b := by
      have h1 := (h a).1 (by simp)
      have h2 := (h b).2 (by simp)
      rw [List.mem_cons] at h1 h2
      rcases h1 with h1 | h1
      · exact h1
      · rcases h2 with h2 | h2
        · exact h2.symm
        · have := hl.1 b h2; have := hr.1 a h1; omega
    subst hab
    congr 1
    refine sorted_ext l r hl.2 hr.2 fun x => ⟨fun hx => ?_, fun hx => ?_⟩
    · have := (h x).1 (List.mem_cons_of_mem _ hx)
      rcases List.mem_cons.1 this with e | e
      · have := hl.1 x hx; omega
      · exact e
    · have := (h x).2 (List.mem_cons_of_mem _ hx)
      rcases List.mem_cons.1 this with e | e
      · have := hr.1 x hx; omega
      · exact e
theorem bitsOf_cons (s : BitVec 32) (h : s ≠ 0#32) : bitsOf s = ctz s :: bitsOf (s &&& (s - 1#32)) := by
  obtain ⟨h1, h2, h3⟩ := ctz_spec s h
  refine sorted_ext _ _ (bitsOf_sorted _) ?_ ?_
  · rw [List.pairwise_cons]
    refine ⟨fun x hx => ?_, bitsOf_sorted _⟩
    rw [mem_bitsOf, h3] at hx
    simp at hx
    exact hx.1
  · intro x
    rw [List.mem_cons, mem_bitsOf, mem_bitsOf, h3]
    rcases Nat.lt_trichotomy x (ctz s) with c | c | c
    · rw [h2 x c]; simp [show ¬ x = ctz s by omega]
    · subst c; simp [h1]
    · simp [c, show ¬ x = ctz s by omega]
theorem bitsOf_len_lt (s : BitVec 32) (h : s ≠ 0#32) : (bitsOf (s &&& (s - 1#32))).length < (bitsOf s).length := by
  rw [bitsOf_cons s h]; simp

/-! ### Neighbours -/
def adj (E : List (BitVec 32)) (v u : Nat) : Prop := v ≠ u ∧ ∃ e, e ∈ E ∧ e.getLsbD v = true ∧ e.getLsbD u = true
theorem adj_symm {E : List (BitVec 32)} {v u : Nat} (h : adj E v u) : adj E u v := ⟨h.1.symm, let ⟨e, he, a, b⟩ := h.2; ⟨e, he, b, a⟩⟩
theorem getLsbD_orAll (l : List (BitVec 32)) (i : Nat) : (orAll l).getLsbD i = l.any fun e => e.getLsbD i := by
  have gen : ∀ (l : List (BitVec 32)) (a : BitVec 32), (l.foldl (· ||| ·) a).getLsbD i = (a.getLsbD i || l.any fun e => e.getLsbD i) := by
    intro l
    induction l with
    | nil => intro a; simp
    | cons x l ih => intro a; rw [List.foldl_cons, ih, BitVec.getLsbD_or, List.any_cons, Bool.or_assoc]
  unfold orAll
  rw [gen]; simp
theorem nearS_iff (E : List (BitVec 32)) (v u : Nat) : (nearS E v).getLsbD u = true ↔ adj E v u := by
  unfold nearS nearU
  rw [BitVec.getLsbD_and, getLsbD_orAll, BitVec.getLsbD_not, BitVec.getLsbD_shiftLeft]
  simp only [Int.toNat_natCast]
  constructor
  · intro h
    simp only [Bool.and_eq_true, List.any_eq_true, List.mem_filter] at h
    obtain ⟨⟨e, ⟨he, hv⟩, hu⟩, h2, h3⟩ := h
    rw [inB_nat] at hv
    have hvlt := lt_of_bit hv
    refine ⟨?_, e, he, hv, hu⟩
    rintro rfl
    simp [hvlt] at h3
  · rintro ⟨hne, e, he, hv, hu⟩
    have hult := lt_of_bit hu
    have hvlt := lt_of_bit hv
    rw [Bool.and_eq_true, List.any_eq_true]
    refine ⟨⟨e, List.mem_filter.2 ⟨he, by rw [inB_nat]; exact hv⟩, hu⟩, ?_⟩
    rcases Nat.lt_or_gt_of_ne hne with c | c
    · simp [hult, show ¬ u < v by omega]; omega
    · simp [hult, c]

/-! ### Lists that lead to the end -/
section
variable (E : List (BitVec 32)) (src dst : Nat) (inner : BitVec 32)
/-- May the vertex stand in a list behind its head? -/
def okV (u : Nat) : Prop := u ≠ src ∧ (u = dst ∨ inner.getLsbD u = true)
def IsP : List Nat → Prop
  | [] => False
  | [v] => v = dst
  | v :: u :: r => v ≠ dst ∧ adj E v u ∧ okV src dst inner u ∧ IsP (u :: r)
/-- A list from v with n steps. -/
def Reach (n : Nat) (v : Nat) : Prop := ∃ p, IsP E src dst inner (v :: p) ∧ p.length = n
/-- .. and none with fewer. -/
def RMin (n : Nat) (v : Nat) : Prop := Reach E src dst inner n v ∧ ∀ m, m < n → ¬ Reach E src dst inner m v
variable {E src dst inner}
theorem reach_zero {v : Nat} : Reach E src dst inner 0 v ↔ v = dst := by
  constructor
  · rintro ⟨p, h, hl⟩
    have : p = [] := List.eq_nil_of_length_eq_zero hl
    subst this; exact h
  · rintro rfl; exact ⟨[], rfl, rfl⟩
theorem reach_succ {v n : Nat} : Reach E src dst inner (n + 1) v ↔ v ≠ dst ∧ ∃ u, adj E v u ∧ okV src dst inner u ∧ Reach E src dst inner n u := by
  constructor
  · rintro ⟨p, h, hl⟩
    match p, hl with
    | u :: r, hl => exact ⟨h.1, u, h.2.1, h.2.2.1, r, h.2.2.2, by simpa using hl⟩
  · rintro ⟨h1, u, h2, h3, r, h4, h5⟩
    exact ⟨u :: r, ⟨h1, h2, h3, h4⟩, by simp [h5]⟩
theorem rmin_zero {v : Nat} : RMin E src dst inner 0 v ↔ v = dst := by
  unfold RMin; rw [reach_zero]; simp
theorem rmin_uniq {v n m : Nat} (h : RMin E src dst inner n v) (h' : RMin E src dst inner m v) : n = m := by
  rcases Nat.lt_trichotomy n m with c | c | c
  · exact absurd h.1 (h'.2 n c)
  · exact c
  · exact absurd h'.1 (h.2 m c)
theorem rmin_of_reach {v : Nat} : ∀ {n : Nat}, Reach E src dst inner n v → ∃ m, m ≤ n ∧ RMin E src dst inner m v := by
  intro n
  induction n using Nat.strongRecOn with
  | _ n ih =>
    intro h
    by_cases hm : ∃ m, m < n ∧ Reach E src dst inner m v
    · obtain ⟨m, hlt, hr⟩ := hm
      obtain ⟨k, hk, hkm⟩ := ih m hlt hr
      exact ⟨k, by omega, hkm⟩
    · exact ⟨n, Nat.le_refl _, h, fun m hlt hr => hm ⟨m, hlt, hr⟩⟩
/-- The next vertex of a shortest list is one step nearer. -/
theorem rmin_succ {v n : Nat} (h : RMin E src dst inner (n + 1) v) : v ≠ dst ∧ ∃ u, adj E v u ∧ okV src dst inner u ∧ RMin E src dst inner n u := by
  obtain ⟨h1, u, h2, h3, h4⟩ := reach_succ.1 h.1
  refine ⟨h1, u, h2, h3, h4, fun m hm hr => ?_⟩
  exact h.2 (m + 1) (by omega) (reach_succ.2 ⟨h1, u, h2, h3, hr⟩)
theorem rmin_succ_of {v u n : Nat} (h1 : v ≠ dst) (h2 : adj E v u) (h3 : okV src dst inner u) (h4 : RMin E src dst inner n u) (hno : ∀ m, m ≤ n → ¬ RMin E src dst inner m v) : RMin E src dst inner (n + 1) v := by
  refine ⟨reach_succ.2 ⟨h1, u, h2, h3, h4.1⟩, fun m hm hr => ?_⟩
  obtain ⟨k, hk, hkm⟩ := rmin_of_reach hr
  exact hno k (by omega) hkm
/-- On the way of a shortest list each number of steps up to its own is met. -/
theorem rmin_down {v n m : Nat} (h : RMin E src dst inner n v) (hm : m < n) : ∃ u, okV src dst inner u ∧ RMin E src dst inner m u := by
  induction n generalizing v with
  | zero => omega
  | succ n ih =>
    obtain ⟨_, u, _, h3, h4⟩ := rmin_succ h
    rcases Nat.lt_or_ge m n with c | c
    · exact ih h4 c
    · obtain rfl : m = n := by omega
      exact ⟨u, h3, h4⟩
end

/-! ### The order of lists: the shorter first, of one length the less -/
def lexLt : List Nat → List Nat → Bool
  | a :: l, b :: r => if a = b then lexLt l r else decide (a < b)
  | _, _ => false
def lessL (a b : List Nat) : Bool := if a.length = b.length then lexLt a b else decide (a.length < b.length)
theorem lexLt_total : ∀ (a b : List Nat), a.length = b.length → lexLt a b = false → lexLt b a = false → a = b
  | [], [], _, _, _ => rfl
  | x :: a, y :: b, hl, h1, h2 => by
    unfold lexLt at h1 h2
    by_cases e : x = y
    · subst e
      simp at h1 h2
      rw [lexLt_total a b (by simpa using hl) h1 h2]
    · rw [if_neg e] at h1
      rw [if_neg (Ne.symm e)] at h2
      simp at h1 h2
      omega
theorem lexLt_irrefl : ∀ a, lexLt a a = false
  | [] => rfl
  | x :: a => by simp [lexLt, lexLt_irrefl a]
theorem lessL_irrefl (a : List Nat) : lessL a a = false := by simp [lessL, lexLt_irrefl]
theorem lexLt_trans : ∀ (a b c : List Nat), lexLt a b = true → lexLt b c = true → lexLt a c = true
  | x :: a, y :: b, z :: c, h1, h2 => by
    unfold lexLt at h1 h2 ⊢
    by_cases e1 : x = y
    · subst e1
      by_cases e2 : x = z
      · subst e2
        simp at h1 h2 ⊢
        exact lexLt_trans a b c h1 h2
      · simpa [e2] using h2
    · rw [if_neg e1] at h1
      by_cases e2 : y = z
      · subst e2; rw [if_neg e1]; exact h1
      · rw [if_neg e2] at h2
        simp at h1 h2
        rw [if_neg (by omega)]; simp; omega
theorem lexLt_asymm (a b : List Nat) (h : lexLt a b = true) : lexLt b a = false := by
  cases hb : lexLt b a
  · rfl
  · have := lexLt_trans a b a h hb
    rw [lexLt_irrefl] at this; cases this
/-- 'not less' is an order, too. -/
theorem lessL_not_trans (a b c : List Nat) (h1 : lessL b a = false) (h2 : lessL c b = false) : lessL c a = false := by
  cases h : lessL c a
  · rfl
  · exfalso
    unfold lessL at h h1 h2
    by_cases e1 : c.length = a.length
    · rw [if_pos e1] at h
      by_cases e2 : b.length = a.length
      · rw [if_pos e2] at h1
        rw [if_pos (by omega)] at h2
        cases hba : lexLt a b
        · have := lexLt_total b a e2 h1 hba
          subst this; rw [h] at h2; cases h2
        · have := lexLt_trans c a b h hba
          rw [h2] at this; cases this
      · rw [if_neg e2] at h1
        rw [if_neg (by omega)] at h2
        simp at h1 h2; omega
    · rw [if_neg e1] at h
      simp at h
      by_cases e2 : b.length = a.length
      · rw [if_neg (by omega)] at h2; simp at h2; omega
      · rw [if_neg e2] at h1
        simp at h1
        by_cases e3 : c.length = b.length
        · omega
        · rw [if_neg e3] at h2; simp at h2; omega
theorem lessL_cons (x : Nat) (a b : List Nat) : lessL (x :: a) (x :: b) = lessL a b := by
  simp [lessL, lexLt]
theorem lessL_asymm (a b : List Nat) (h : lessL a b = true) : lessL b a = false := by
  unfold lessL at h ⊢
  by_cases e : a.length = b.length
  · rw [if_pos e] at h; rw [if_pos e.symm]; exact lexLt_asymm a b h
  · rw [if_neg e] at h; rw [if_neg (Ne.symm e)]; simp at h ⊢; omega

end Go.Proofs.YtdemmjofggemhaaDoor

/- The plain law of paths, second part: the search by layers; the walk along it; making better. No program in sight. -/
namespace Go.Proofs.YtdemmjofggemhaaDoor

section
variable {E : List (BitVec 32)} {src dst V : Nat} {inner inn : BitVec 32}

/-- What is given: vertices within V; 'inn' is 'inner' cut to what may stand between. -/
structure Given (E : List (BitVec 32)) (src dst V : Nat) (inner inn : BitVec 32) : Prop where
  edge : ∀ e, e ∈ E → ∀ u, e.getLsbD u = true → u < V
  hsrc : src < V
  hdst : dst < V
  ne : src ≠ dst
  small : V ≤ 30
  inn : ∀ u, inn.getLsbD u = true ↔ (inner.getLsbD u = true ∧ u ≠ src ∧ u ≠ dst ∧ u < V)
theorem Given.adj_lt (h : Given E src dst V inner inn) {v u : Nat} (ha : adj E v u) : v < V ∧ u < V := by
  obtain ⟨_, e, he, a, b⟩ := ha
  exact ⟨h.edge e he v a, h.edge e he u b⟩
theorem Given.inn_of_ok (h : Given E src dst V inner inn) {u : Nat} (h1 : okV src dst inner u) (h2 : u ≠ dst) (h3 : u < V) : inn.getLsbD u = true :=
  (h.inn u).2 ⟨h1.2.resolve_left h2, h1.1, h2, h3⟩
theorem Given.ok_of_inn (h : Given E src dst V inner inn) {u : Nat} (h1 : inn.getLsbD u = true) : okV src dst inner u := by
  obtain ⟨a, b, _, _⟩ := (h.inn u).1 h1
  exact ⟨b, .inr a⟩

/-- Where the search stands: 'f' the steps that are known, all numbers below n. -/
structure Inv (E : List (BitVec 32)) (src dst : Nat) (inner inn : BitVec 32) (n : Nat) (f : Nat → Nat) (layer seen : BitVec 32) : Prop where
  lo : 1 ≤ n
  a : ∀ v, f v ≠ 0 → f v < n ∧ RMin E src dst inner (f v) v
  b : ∀ v m, (v = src ∨ inn.getLsbD v = true) → 1 ≤ m → m < n → RMin E src dst inner m v → f v = m
  c : ∀ v, seen.getLsbD v = true ↔ (v = dst ∨ f v ≠ 0)
  d : ∀ v, layer.getLsbD v = true ↔ (okV src dst inner v ∧ RMin E src dst inner (n - 1) v)

theorem getLsbD_one_shl (k i : Nat) (hk : k < 32) : (1#32 <<< k).getLsbD i = decide (i = k) := by
  rw [BitVec.getLsbD_shiftLeft]
  rcases Nat.lt_trichotomy i k with c | c | c
  · simp [c, show ¬ i = k by omega]
  · subst c; simp [hk]
  · have : i - k ≠ 0 := by omega
    simp [show ¬ i < k by omega, show ¬ i = k by omega, this]

theorem Inv.start (h : Given E src dst V inner inn) : Inv E src dst inner inn 1 (fun _ => 0) (1#32 <<< dst) (1#32 <<< dst) := by
  have hd : dst < 32 := by have := h.hdst; have := h.small; omega
  refine ⟨Nat.le_refl _, fun v hv => absurd rfl hv, fun v m _ h1 h2 _ => by omega, fun v => ?_, fun v => ?_⟩
  · rw [getLsbD_one_shl _ _ hd]; simp
  · rw [getLsbD_one_shl _ _ hd, show 1 - 1 = 0 from rfl, rmin_zero]
    simp only [decide_eq_true_eq]
    exact ⟨fun e => ⟨⟨by rw [e]; exact h.ne.symm, .inl e⟩, e⟩, fun e => e.2⟩

/-- The next layer, before what may not be passed is taken out. -/
def nearAll (E : List (BitVec 32)) (s : BitVec 32) : BitVec 32 := orAll ((bitsOf s).map fun (v : Nat) => nearS E (v : Int))
theorem nearAll_iff (E : List (BitVec 32)) (s : BitVec 32) (v : Nat) : (nearAll E s).getLsbD v = true ↔ ∃ u, s.getLsbD u = true ∧ adj E u v := by
  unfold nearAll
  rw [getLsbD_orAll, List.any_eq_true]
  constructor
  · rintro ⟨x, hx, hv⟩
    obtain ⟨u, hu, rfl⟩ := List.mem_map.1 hx
    exact ⟨u, mem_bitsOf.1 hu, (nearS_iff E u v).1 hv⟩
  · rintro ⟨u, hu, ha⟩
    exact ⟨_, List.mem_map.2 ⟨u, mem_bitsOf.2 hu, rfl⟩, (nearS_iff E u v).2 ha⟩
def nextL (E : List (BitVec 32)) (src : Nat) (inn layer seen : BitVec 32) : BitVec 32 := nearAll E layer &&& ((inn ||| 1#32 <<< src) &&& ~~~seen)
theorem Inv.next_iff (h : Given E src dst V inner inn) {n : Nat} {f : Nat → Nat} {layer seen : BitVec 32} (hi : Inv E src dst inner inn n f layer seen) (v : Nat) :
    (nextL E src inn layer seen).getLsbD v = true ↔ (RMin E src dst inner n v ∧ (v = src ∨ okV src dst inner v)) := by
  have hs : src < 32 := by have := h.hsrc; have := h.small; omega
  have hlo := hi.lo
  unfold nextL
  rw [BitVec.getLsbD_and, BitVec.getLsbD_and, BitVec.getLsbD_or, getLsbD_one_shl _ _ hs, BitVec.getLsbD_not, Bool.and_eq_true, nearAll_iff, Bool.and_eq_true, Bool.or_eq_true, Bool.and_eq_true, decide_eq_true_eq, decide_eq_true_eq, Bool.not_eq_true']
  constructor
  · rintro ⟨⟨u, hu, ha⟩, hadm, hv, hns⟩
    obtain ⟨ho, hr⟩ := (hi.d u).1 hu
    have hnd : v ≠ dst := fun e => by
      have := (hi.c v).2 (.inl e)
      rw [hns] at this; cases this
    have hadm' : v = src ∨ inn.getLsbD v = true := hadm.symm
    refine ⟨?_, hadm'.imp id h.ok_of_inn⟩
    have := rmin_succ_of hnd (adj_symm ha) ho hr fun m hm hrm => ?_
    · rwa [Nat.sub_add_cancel hlo] at this
    · rcases Nat.eq_zero_or_pos m with e | e
      · subst e; exact hnd (rmin_zero.1 hrm)
      · have hf := hi.b v m hadm' e (by omega) hrm
        have := (hi.c v).2 (.inr (by omega))
        rw [hns] at this; cases this
  · rintro ⟨hr, hadm⟩
    obtain ⟨k, rfl⟩ : ∃ k, n = k + 1 := ⟨n - 1, by omega⟩
    obtain ⟨hnd, u, ha, ho, hru⟩ := rmin_succ hr
    have hvlt := (h.adj_lt ha).1
    refine ⟨⟨u, (hi.d u).2 ⟨ho, by simpa using hru⟩, adj_symm ha⟩, ?_, by have := h.small; omega, ?_⟩
    · rcases hadm with e | e
      · exact .inr e
      · exact .inl (h.inn_of_ok e hnd hvlt)
    · cases hseen : seen.getLsbD v
      · rfl
      · rcases (hi.c v).1 hseen with e | e
        · exact absurd e hnd
        · have := (hi.a v e)
          have := rmin_uniq hr this.2
          omega
theorem Inv.step (h : Given E src dst V inner inn) {n : Nat} {f : Nat → Nat} {layer seen : BitVec 32} (hi : Inv E src dst inner inn n f layer seen) :
    Inv E src dst inner inn (n + 1) (fun v => if (nextL E src inn layer seen).getLsbD v = true then n else f v) (nextL E src inn layer seen &&& ~~~(1#32 <<< src)) (seen ||| nextL E src inn layer seen) := by
  have hs : src < 32 := by have := h.hsrc; have := h.small; omega
  have hlo := hi.lo
  have key := hi.next_iff h
  generalize hN : nextL E src inn layer seen = N at key
  refine ⟨by omega, fun v hv => ?_, fun v m hadm h1 h2 hr => ?_, fun v => ?_, fun v => ?_⟩
  · by_cases c : N.getLsbD v = true
    · rw [if_pos c]; exact ⟨by omega, ((key v).1 c).1⟩
    · rw [if_neg c] at hv ⊢
      have := hi.a v hv
      exact ⟨by omega, this.2⟩
  · by_cases c : N.getLsbD v = true
    · rw [if_pos c]; exact rmin_uniq ((key v).1 c).1 hr
    · rw [if_neg c]
      rcases Nat.lt_or_ge m n with e | e
      · exact hi.b v m hadm h1 e hr
      · obtain rfl : m = n := by omega
        exact absurd ((key v).2 ⟨hr, hadm.imp id h.ok_of_inn⟩) c
  · rw [BitVec.getLsbD_or, Bool.or_eq_true, hi.c]
    by_cases c : N.getLsbD v = true
    · simp only [c, if_true, or_true, true_iff]
      exact .inr (by omega)
    · simp only [c, if_false, or_false, Bool.false_eq_true]
  · rw [BitVec.getLsbD_and, BitVec.getLsbD_not, getLsbD_one_shl _ _ hs, Bool.and_eq_true, key, Bool.and_eq_true, decide_eq_true_eq, Bool.not_eq_true', decide_eq_false_iff_not, show n + 1 - 1 = n by omega]
    constructor
    · rintro ⟨⟨hr, hadm⟩, _, hne⟩
      exact ⟨hadm.resolve_left hne, hr⟩
    · rintro ⟨ho, hr⟩
      obtain ⟨k, rfl⟩ : ∃ k, n = k + 1 := ⟨n - 1, by omega⟩
      obtain ⟨_, u, ha, _, _⟩ := rmin_succ hr
      have := (h.adj_lt ha).1
      exact ⟨⟨hr, .inr ho⟩, by have := h.small; omega, ho.1⟩
/-- Nothing more is found: there is no list. -/
theorem Inv.none (h : Given E src dst V inner inn) {n : Nat} {f : Nat → Nat} {seen : BitVec 32} (hi : Inv E src dst inner inn n f 0#32 seen) (h0 : f src = 0) : ∀ p, IsP E src dst inner p → p.head? ≠ some src := by
  intro p hp hh
  match p, hp, hh with
  | v :: r, hp, hh =>
    obtain rfl : v = src := by simpa using hh
    obtain ⟨m, _, hm⟩ := rmin_of_reach (E := E) (src := v) (dst := dst) (inner := inner) (v := v) ⟨r, hp, rfl⟩
    rcases Nat.eq_zero_or_pos m with e | e
    · subst e; exact h.ne (rmin_zero.1 hm)
    · rcases Nat.lt_or_ge m n with c | c
      · have := hi.b v m (.inl rfl) e c hm
        omega
      · have hlo := hi.lo
        obtain ⟨u, ho, hu⟩ := rmin_down hm (show n - 1 < m by omega)
        have := (hi.d u).2 ⟨ho, hu⟩
        simp at this
/-! ### Along the numbers -/
/-! ### Making better -/
def leastL (a b : List Nat) : List Nat := if a = [] ∨ (b ≠ [] ∧ lessL b a = true) then b else a
theorem leastL_left (a b : List Nat) (ha : a ≠ []) : lessL a (leastL a b) = false := by
  unfold leastL
  split
  · rename_i h
    rcases h with h | h
    · exact absurd h ha
    · exact lessL_asymm _ _ h.2
  · exact lessL_irrefl _
theorem leastL_right (a b : List Nat) (hb : b ≠ []) : lessL b (leastL a b) = false := by
  unfold leastL
  split
  · exact lessL_irrefl _
  · rename_i h
    cases c : lessL b a
    · rfl
    · exact absurd (.inr ⟨hb, c⟩) h
theorem leastL_ne (a b : List Nat) (h : a ≠ [] ∨ b ≠ []) : leastL a b ≠ [] := by
  unfold leastL
  split
  · rename_i c
    rcases c with c | c
    · exact h.resolve_left (fun e => e c)
    · exact c.1
  · rename_i c
    intro e; exact c (.inl e)
/-- The lists are lists, and none of at most r + 1 vertices is better. -/
structure Bst (E : List (BitVec 32)) (src dst V : Nat) (inner : BitVec 32) (r : Nat) (b : Nat → List Nat) : Prop where
  is : ∀ v, b v ≠ [] → IsP E src dst inner (b v) ∧ (b v).head? = some v
  low : ∀ v, v < V → ∀ q, IsP E src dst inner q → q.head? = some v → q.length ≤ r + 1 → b v ≠ [] ∧ lessL q (b v) = false
/-- In the midst of a round: v is being looked at, with all up to w. -/
structure Mid (E : List (BitVec 32)) (src dst V : Nat) (inner : BitVec 32) (r : Nat) (b : Nat → List Nat) (v w : Nat) : Prop where
  is : ∀ v, b v ≠ [] → IsP E src dst inner (b v) ∧ (b v).head? = some v
  low : ∀ v, v < V → ∀ q, IsP E src dst inner q → q.head? = some v → q.length ≤ r + 1 → b v ≠ [] ∧ lessL q (b v) = false
  done : ∀ u, u < v → ∀ q, IsP E src dst inner q → q.head? = some u → q.length ≤ r + 2 → b u ≠ [] ∧ lessL q (b u) = false
  part : ∀ y q, y < w → IsP E src dst inner (v :: y :: q) → q.length ≤ r → b v ≠ [] ∧ lessL (v :: y :: q) (b v) = false
theorem Bst.start (hd : dst < V) : Bst E src dst V inner 0 (fun v => if v = dst then [dst] else []) := by
  refine ⟨fun v hv => ?_, fun v _ q hq hh hl => ?_⟩
  · by_cases c : v = dst
    · subst c; simp [IsP]
    · simp [c] at hv
  · match q, hq, hh, hl with
    | [x], hq, hh, _ =>
      obtain rfl : x = v := by simpa using hh
      obtain rfl : x = dst := hq
      simp [lessL_irrefl]
    | x :: y :: r, _, _, hl => simp at hl
theorem Mid.next (h : Given E src dst V inner inn) {r v : Nat} {b : Nat → List Nat} (hm : Mid E src dst V inner r b v V) (hv : v < V) : Mid E src dst V inner r b (v + 1) 0 := by
  refine ⟨hm.is, hm.low, fun u hu q hq hh hl => ?_, fun y q hy => by omega⟩
  rcases Nat.lt_or_ge u v with c | c
  · exact hm.done u c q hq hh hl
  · obtain rfl : u = v := by omega
    match q, hq, hh, hl with
    | [x], hq, hh, _ => exact hm.low u hv [x] hq hh (by simp)
    | x :: y :: q, hq, hh, hl =>
      obtain rfl : x = u := by simpa using hh
      exact hm.part y q (h.adj_lt hq.2.1).2 hq (by simpa using hl)
/-- The look at v and w finds nothing to do. -/
theorem Mid.skip {r v w : Nat} {b : Nat → List Nat} (hm : Mid E src dst V inner r b v w) (hw : w < V) (hc : v = dst ∨ b w = [] ∨ ¬ adj E v w ∨ ¬ okV src dst inner w) : Mid E src dst V inner r b v (w + 1) := by
  refine ⟨hm.is, hm.low, hm.done, fun y q hy hq hl => ?_⟩
  rcases Nat.lt_or_ge y w with c | c
  · exact hm.part y q c hq hl
  · obtain rfl : y = w := by omega
    exfalso
    rcases hc with e | e | e | e
    · exact hq.1 e
    · exact (hm.low y hw (y :: q) hq.2.2.2 rfl (by simpa using hl)).1 e
    · exact e hq.2.1
    · exact e hq.2.2.1
def upd (b : Nat → List Nat) (v : Nat) (x : List Nat) : Nat → List Nat := fun u => if u = v then x else b u
theorem Mid.better {r v w : Nat} {b : Nat → List Nat} (hm : Mid E src dst V inner r b v w) (hw : w < V) (h1 : v ≠ dst) (h2 : b w ≠ []) (h3 : adj E v w) (h4 : okV src dst inner w) :
    Mid E src dst V inner r (upd b v (leastL (b v) (v :: b w))) v (w + 1) := by
  have hne : leastL (b v) (v :: b w) ≠ [] := leastL_ne _ _ (.inr (by simp))
  have keep : ∀ q, (b v ≠ [] ∧ lessL q (b v) = false) → upd b v (leastL (b v) (v :: b w)) v ≠ [] ∧ lessL q (upd b v (leastL (b v) (v :: b w)) v) = false := by
    rintro q ⟨a, c⟩
    simp only [upd, if_true]
    exact ⟨hne, lessL_not_trans _ _ _ (leastL_left _ _ a) c⟩
  have keepAll : ∀ u q, (b u ≠ [] ∧ lessL q (b u) = false) → upd b v (leastL (b v) (v :: b w)) u ≠ [] ∧ lessL q (upd b v (leastL (b v) (v :: b w)) u) = false := by
    intro u q hq
    by_cases c : u = v
    · subst c; exact keep q hq
    · simp only [upd, if_neg c]; exact hq
  refine ⟨fun u hu => ?_, fun u hu q a c d => keepAll u q (hm.low u hu q a c d), fun u hu q a c d => keepAll u q (hm.done u hu q a c d), fun y q hy hq hl => ?_⟩
  · by_cases c : u = v
    · subst c
      simp only [upd, if_true] at hu ⊢
      have hcand : IsP E src dst inner (u :: b w) ∧ (u :: b w).head? = some u := by
        obtain ⟨a, d⟩ := hm.is w h2
        cases hb : b w with
        | nil => exact absurd hb h2
        | cons x s =>
          rw [hb] at a d
          obtain rfl : x = w := by simpa using d
          exact ⟨⟨h1, h3, h4, a⟩, rfl⟩
      unfold leastL at hu ⊢
      split
      · exact hcand
      · rename_i hc
        exact hm.is u (fun e => hc (.inl e))
    · simp only [upd, if_neg c] at hu ⊢
      exact hm.is u hu
  · rcases Nat.lt_or_ge y w with c | c
    · exact keep _ (hm.part y q c hq hl)
    · obtain rfl : y = w := by omega
      simp only [upd, if_true]
      refine ⟨hne, lessL_not_trans _ (v :: b y) _ (leastL_right _ _ (by simp)) ?_⟩
      rw [lessL_cons]
      exact (hm.low y hw (y :: q) hq.2.2.2 rfl (by simpa using hl)).2
end
end Go.Proofs.YtdemmjofggemhaaDoor

/- The plain law of paths, third part: what Path answers; the valid graph's facts. No program in sight. -/
namespace Go.Proofs.YtdemmjofggemhaaDoor

/-- What the search has found out. -/
def Found (E : List (BitVec 32)) (s t : Nat) (inner inn : BitVec 32) (f : Nat → Nat) : Prop :=
  (f s = 0 ∧ ∀ p, IsP E s t inner p → p.head? ≠ some s) ∨ (f s ≠ 0 ∧ ∃ n L S, Inv E s t inner inn n f L S)
theorem Found.no {E : List (BitVec 32)} {s t : Nat} {inner inn : BitVec 32} {f : Nat → Nat} (h : Found E s t inner inn f) (h0 : f s = 0) : ∀ p, IsP E s t inner p → p.head? ≠ some s := by
  rcases h with h | h
  · exact h.2
  · exact absurd h0 h.1
theorem bitsOf_len (s : BitVec 32) : (bitsOf s).length ≤ 32 := by
  unfold bitsOf
  have := List.length_filter_le (fun v => s.getLsbD v) (List.range 32)
  rw [List.length_range] at this
  exact this
/-- The numbers of steps, as the array holds them. -/
def fl (f : Nat → Nat) : List Int := (List.range 30).map fun v => (f v : Int)
end Go.Proofs.YtdemmjofggemhaaDoor
