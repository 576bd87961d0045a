/- The plain law of paths: the least of the shortest lists that lead to an end; what a search by layers finds, and what making better as long as it can be finds. No program in sight. -/
import Derived.Test.YtaongngoacbodaaDoorGr2
namespace Go.Proofs.YtaongngoacbodaaDoor

/-! ### The vertices of a set, rising -/
def bitsOf (s : BitVec 32) : List Nat := (List.range 32).filter fun v => s.getLsbD v
theorem mem_bitsOf {s : BitVec 32} {v : Nat} : v ∈ bitsOf s ↔ s.getLsbD v = true := by
  unfold bitsOf
  rw [List.mem_filter, List.mem_range]
  refine ⟨fun h => h.2, fun h => ⟨?_, h⟩⟩
  rcases Nat.lt_or_ge v 32 with c | c
  · exact c
  · rw [BitVec.getLsbD_of_ge _ _ c] at h; cases h
theorem lt_of_bit {s : BitVec 32} {v : Nat} (h : s.getLsbD v = true) : v < 32 := by
  rcases Nat.lt_or_ge v 32 with c | c
  · exact c
  · rw [BitVec.getLsbD_of_ge _ _ c] at h; cases h
theorem bitsOf_zero : bitsOf 0#32 = [] := by decide
theorem bitsOf_sorted (s : BitVec 32) : (bitsOf s).Pairwise (· < ·) := by
  unfold bitsOf
  exact List.Pairwise.filter _ List.pairwise_lt_range
theorem ctz_spec (s : BitVec 32) (h : s ≠ 0#32) : s.getLsbD (ctz s) = true ∧ (∀ i, i < ctz s → s.getLsbD i = false) ∧ ∀ i, (s &&& (s - 1#32)).getLsbD i = (decide (ctz s < i) && s.getLsbD i) := by
  have hx0 : 0 < s.toNat := by
    rcases Nat.eq_zero_or_pos s.toNat with c | c
    · exact absurd (BitVec.eq_of_toNat_eq (by simpa using c)) h
    · exact c
  have hc : ctz s = Lib.ctzFrom 32 s.toNat := by unfold ctz Lib.ctz; rw [if_neg (by omega)]
  obtain ⟨m, hm, hk⟩ := Lib.ctzFrom_spec 32 s.toNat hx0 s.isLt
  rw [← hc] at hm hk
  generalize ctz s = k at hm hk
  have bit : ∀ i, s.getLsbD i = if i < k then false else if i = k then true else m.testBit (i - k - 1) := by
    intro i
    rw [BitVec.getLsbD, hm, Nat.testBit_two_pow_mul]
    rcases Nat.lt_trichotomy i k with c | c | c
    · simp [c, show ¬ k ≤ i by omega]
    · subst c; simp [Nat.testBit_zero]
    · have : i - k = (i - k - 1) + 1 := by omega
      rw [if_neg (by omega), if_neg (by omega), this, Nat.testBit_succ]
      simp [show k ≤ i by omega]
      congr 1
      omega
  have bit1 : ∀ i, (s - 1#32).getLsbD i = if i < k then true else if i = k then false else m.testBit (i - k - 1) := by
    intro i
    have h1 : (s - 1#32).toNat = 2 ^ k * (2 * m) + (2 ^ k - 1) := by
      rw [BitVec.toNat_sub]
      have := s.isLt
      have h2 := Nat.two_pow_pos k
      have h3 : 2 ^ k * (2 * m + 1) = 2 ^ k * (2 * m) + 2 ^ k := by rw [Nat.mul_add]; simp
      simp
      omega
    rw [BitVec.getLsbD, h1, Nat.testBit_two_pow_mul_add _ (by have := Nat.two_pow_pos k; omega)]
    rcases Nat.lt_trichotomy i k with c | c | c
    · simp [c, Nat.testBit_two_pow_sub_one]
    · subst c; simp [Nat.testBit_zero]
    · rw [if_neg (by omega), if_neg (by omega), if_neg (by omega)]
      have : i - k = (i - k - 1) + 1 := by omega
      rw [this, Nat.testBit_succ]
      congr 1
      omega
  refine ⟨by rw [bit]; simp, fun i hi => by rw [bit, if_pos hi], fun i => ?_⟩
  rw [BitVec.getLsbD_and, bit1, bit]
  rcases Nat.lt_trichotomy i k with c | c | c
  · simp [c, show ¬ k < i by omega]
  · subst c; simp
  · simp [c, show ¬ i < k by omega, show ¬ i = k by omega]
theorem sorted_ext : ∀ (l r : List Nat), l.Pairwise (· < ·) → r.Pairwise (· < ·) → (∀ x, x ∈ l ↔ x ∈ r) → l = r
  | [], [], _, _, _ => rfl
  | [], b :: r, _, _, h => absurd ((h b).2 (by simp)) (by simp)
  | a :: l, [], _, _, h => absurd ((h a).1 (by simp)) (by simp)
  | a :: l, b :: r, hl, hr, h => by
    rw [List.pairwise_cons] at hl hr
    have hab : a = b := by
      have h1 := (h a).1 (by simp)
      have h2 := (h b).2 (by simp)
      rw [List.mem_cons] at h1 h2
      rcases h1 with h1 | h1
      · exact h1
      · rcases h2 with h2 | h2
        · exact h2.symm
        · have := hl.1 b h2; have := hr.1 a h1; omega
    subst hab
    congr 1
    refine sorted_ext l r hl.2 hr.2 fun x => ⟨fun hx => ?_, fun hx => ?_⟩
    · have := (h x).1 (List.mem_cons_of_mem _ hx)
      rcases List.mem_cons.1 this with e | e
      · have := hl.1 x hx; omega
      · exact e
    · have := (h x).2 (List.mem_cons_of_mem _ hx)
      rcases List.mem_cons.1 this with e | e
      · have := hr.1 x hx; omega
      · exact e
theorem bitsOf_cons (s : BitVec 32) (h : s ≠ 0#32) : bitsOf s = ctz s :: bitsOf (s &&& (s - 1#32)) := by
  obtain ⟨h1, h2, h3⟩ := ctz_spec s h
  refine sorted_ext _ _ (bitsOf_sorted _) ?_ ?_
  · rw [List.pairwise_cons]
    refine ⟨fun x hx => ?_, bitsOf_sorted _⟩
    rw [mem_bitsOf, h3] at hx
    simp at hx
    exact hx.1
  · intro x
    rw [List.mem_cons, mem_bitsOf, mem_bitsOf, h3]
    rcases Nat.lt_trichotomy x (ctz s) with c | c | c
    · rw [h2 x c]; simp [show ¬ x = ctz s by omega]
    · subst c; simp [h1]
    · simp [c, show ¬ x = ctz s by omega]
theorem bitsOf_len_lt (s : BitVec 32) (h : s ≠ 0#32) : (bitsOf (s &&& (s - 1#32))).length < (bitsOf s).length := by
  rw [bitsOf_cons s h]; simp

/-! ### Neighbours -/
def adj (E : List (BitVec 32)) (v u : Nat) : Prop := v ≠ u ∧ ∃ e, e ∈ E ∧ e.getLsbD v = true ∧ e.getLsbD u = true
theorem adj_symm {E : List (BitVec 32)} {v u : Nat} (h : adj E v u) : adj E u v := ⟨h.1.symm, let ⟨e, he, a, b⟩ := h.2; ⟨e, he, b, a⟩⟩
theorem nearB_iff (E : List (BitVec 32)) (v u : Nat) : nearB E v u = true ↔ adj E v u := by
  unfold nearB adj
  simp only [Bool.and_eq_true, decide_eq_true_eq, List.any_eq_true, inB_nat]
  constructor
  · rintro ⟨h, e, he, a, b⟩; exact ⟨by omega, e, he, a, b⟩
  · rintro ⟨h, e, he, a, b⟩; exact ⟨by omega, e, he, a, b⟩
theorem getLsbD_orAll (l : List (BitVec 32)) (i : Nat) : (orAll l).getLsbD i = l.any fun e => e.getLsbD i := by
  have gen : ∀ (l : List (BitVec 32)) (a : BitVec 32), (l.foldl (· ||| ·) a).getLsbD i = (a.getLsbD i || l.any fun e => e.getLsbD i) := by
    intro l
    induction l with
    | nil => intro a; simp
    | cons x l ih => intro a; rw [List.foldl_cons, ih, BitVec.getLsbD_or, List.any_cons, Bool.or_assoc]
  unfold orAll
  rw [gen]; simp
theorem nearS_iff (E : List (BitVec 32)) (v u : Nat) : (nearS E v).getLsbD u = true ↔ adj E v u := by
  unfold nearS nearU
  rw [BitVec.getLsbD_and, getLsbD_orAll, BitVec.getLsbD_not, BitVec.getLsbD_shiftLeft]
  simp only [Int.toNat_natCast]
  constructor
  · intro h
    simp only [Bool.and_eq_true, List.any_eq_true, List.mem_filter] at h
    obtain ⟨⟨e, ⟨he, hv⟩, hu⟩, h2, h3⟩ := h
    rw [inB_nat] at hv
    have hvlt := lt_of_bit hv
    refine ⟨?_, e, he, hv, hu⟩
    rintro rfl
    simp [hvlt] at h3
  · rintro ⟨hne, e, he, hv, hu⟩
    have hult := lt_of_bit hu
    have hvlt := lt_of_bit hv
    rw [Bool.and_eq_true, List.any_eq_true]
    refine ⟨⟨e, List.mem_filter.2 ⟨he, by rw [inB_nat]; exact hv⟩, hu⟩, ?_⟩
    rcases Nat.lt_or_gt_of_ne hne with c | c
    · simp [hult, show ¬ u < v by omega]; omega
    · simp [hult, c]

/-! ### Lists that lead to the end -/
section
variable (E : List (BitVec 32)) (src dst : Nat) (inner : BitVec 32)
/-- May the vertex stand in a list behind its head? -/
def okV (u : Nat) : Prop := u ≠ src ∧ (u = dst ∨ inner.getLsbD u = true)
def IsP : List Nat → Prop
  | [] => False
  | [v] => v = dst
  | v :: u :: r => v ≠ dst ∧ adj E v u ∧ okV src dst inner u ∧ IsP (u :: r)
/-- A list from v with n steps. -/
def Reach (n : Nat) (v : Nat) : Prop := ∃ p, IsP E src dst inner (v :: p) ∧ p.length = n
/-- .. and none with fewer. -/
def RMin (n : Nat) (v : Nat) : Prop := Reach E src dst inner n v ∧ ∀ m, m < n → ¬ Reach E src dst inner m v
variable {E src dst inner}
theorem reach_zero {v : Nat} : Reach E src dst inner 0 v ↔ v = dst := by
  constructor
  · rintro ⟨p, h, hl⟩
    have : p = [] := List.eq_nil_of_length_eq_zero hl
    subst this; exact h
  · rintro rfl; exact ⟨[], rfl, rfl⟩
theorem reach_succ {v n : Nat} : Reach E src dst inner (n + 1) v ↔ v ≠ dst ∧ ∃ u, adj E v u ∧ okV src dst inner u ∧ Reach E src dst inner n u := by
  constructor
  · rintro ⟨p, h, hl⟩
    match p, hl with
    | u :: r, hl => exact ⟨h.1, u, h.2.1, h.2.2.1, r, h.2.2.2, by simpa using hl⟩
  · rintro ⟨h1, u, h2, h3, r, h4, h5⟩
    exact ⟨u :: r, ⟨h1, h2, h3, h4⟩, by simp [h5]⟩
theorem rmin_zero {v : Nat} : RMin E src dst inner 0 v ↔ v = dst := by
  unfold RMin; rw [reach_zero]; simp
theorem rmin_uniq {v n m : Nat} (h : RMin E src dst inner n v) (h' : RMin E src dst inner m v) : n = m := by
  rcases Nat.lt_trichotomy n m with c | c | c
  · exact absurd h.1 (h'.2 n c)
  · exact c
  · exact absurd h'.1 (h.2 m c)
theorem rmin_of_reach {v : Nat} : ∀ {n : Nat}, Reach E src dst inner n v → ∃ m, m ≤ n ∧ RMin E src dst inner m v := by
  intro n
  induction n using Nat.strongRecOn with
  | _ n ih =>
    intro h
    by_cases hm : ∃ m, m < n ∧ Reach E src dst inner m v
    · obtain ⟨m, hlt, hr⟩ := hm
      obtain ⟨k, hk, hkm⟩ := ih m hlt hr
      exact ⟨k, by omega, hkm⟩
    · exact ⟨n, Nat.le_refl _, h, fun m hlt hr => hm ⟨m, hlt, hr⟩⟩
/-- The next vertex of a shortest list is one step nearer. -/
theorem rmin_succ {v n : Nat} (h : RMin E src dst inner (n + 1) v) : v ≠ dst ∧ ∃ u, adj E v u ∧ okV src dst inner u ∧ RMin E src dst inner n u := by
  obtain ⟨h1, u, h2, h3, h4⟩ := reach_succ.1 h.1
  refine ⟨h1, u, h2, h3, h4, fun m hm hr => ?_⟩
  exact h.2 (m + 1) (by omega) (reach_succ.2 ⟨h1, u, h2, h3, hr⟩)
theorem rmin_succ_of {v u n : Nat} (h1 : v ≠ dst) (h2 : adj E v u) (h3 : okV src dst inner u) (h4 : RMin E src dst inner n u) (hno : ∀ m, m ≤ n → ¬ RMin E src dst inner m v) : RMin E src dst inner (n + 1) v := by
  refine ⟨reach_succ.2 ⟨h1, u, h2, h3, h4.1⟩, fun m hm hr => ?_⟩
  obtain ⟨k, hk, hkm⟩ := rmin_of_reach hr
  exact hno k (by omega) hkm
/-- On the way of a shortest list each number of steps up to its own is met. -/
theorem rmin_down {v n m : Nat} (h : RMin E src dst inner n v) (hm : m < n) : ∃ u, okV src dst inner u ∧ RMin E src dst inner m u := by
  induction n generalizing v with
  | zero => omega
  | succ n ih =>
    obtain ⟨_, u, _, h3, h4⟩ := rmin_succ h
    rcases Nat.lt_or_ge m n with c | c
    · exact ih h4 c
    · obtain rfl : m = n := by omega
      exact ⟨u, h3, h4⟩
end

/-! ### The order of lists: the shorter first, of one length the less -/
def lexLt : List Nat → List Nat → Bool
  | a :: l, b :: r => if a = b then lexLt l r else decide (a < b)
  | _, _ => false
def lessL (a b : List Nat) : Bool := if a.length = b.length then lexLt a b else decide (a.length < b.length)
theorem lexLt_total : ∀ (a b : List Nat), a.length = b.length → lexLt a b = false → lexLt b a = false → a = b
  | [], [], _, _, _ => rfl
  | x :: a, y :: b, hl, h1, h2 => by
    unfold lexLt at h1 h2
    by_cases e : x = y
    · subst e
      simp at h1 h2
      rw [lexLt_total a b (by simpa using hl) h1 h2]
    · rw [if_neg e] at h1
      rw [if_neg (Ne.symm e)] at h2
      simp at h1 h2
      omega
theorem lessL_total (a b : List Nat) (h1 : lessL a b = false) (h2 : lessL b a = false) : a = b := by
  unfold lessL at h1 h2
  by_cases e : a.length = b.length
  · rw [if_pos e] at h1
    rw [if_pos e.symm] at h2
    exact lexLt_total a b e h1 h2
  · rw [if_neg e] at h1
    rw [if_neg (Ne.symm e)] at h2
    simp at h1 h2
    omega
theorem lexLt_irrefl : ∀ a, lexLt a a = false
  | [] => rfl
  | x :: a => by simp [lexLt, lexLt_irrefl a]
theorem lessL_irrefl (a : List Nat) : lessL a a = false := by simp [lessL, lexLt_irrefl]
theorem lexLt_trans : ∀ (a b c : List Nat), lexLt a b = true → lexLt b c = true → lexLt a c = true
  | x :: a, y :: b, z :: c, h1, h2 => by
    unfold lexLt at h1 h2 ⊢
    by_cases e1 : x = y
    · subst e1
      by_cases e2 : x = z
      · subst e2
        simp at h1 h2 ⊢
        exact lexLt_trans a b c h1 h2
      · simpa [e2] using h2
    · rw [if_neg e1] at h1
      by_cases e2 : y = z
      · subst e2; rw [if_neg e1]; exact h1
      · rw [if_neg e2] at h2
        simp at h1 h2
        rw [if_neg (by omega)]; simp; omega
theorem lexLt_asymm (a b : List Nat) (h : lexLt a b = true) : lexLt b a = false := by
  cases hb : lexLt b a
  · rfl
  · have := lexLt_trans a b a h hb
    rw [lexLt_irrefl] at this; cases this
/-- 'not less' is an order, too. -/
theorem lessL_not_trans (a b c : List Nat) (h1 : lessL b a = false) (h2 : lessL c b = false) : lessL c a = false := by
  cases h : lessL c a
  · rfl
  · exfalso
    unfold lessL at h h1 h2
    by_cases e1 : c.length = a.length
    · rw [if_pos e1] at h
      by_cases e2 : b.length = a.length
      · rw [if_pos e2] at h1
        rw [if_pos (by omega)] at h2
        cases hba : lexLt a b
        · have := lexLt_total b a e2 h1 hba
          subst this; rw [h] at h2; cases h2
        · have := lexLt_trans c a b h hba
          rw [h2] at this; cases this
      · rw [if_neg e2] at h1
        rw [if_neg (by omega)] at h2
        simp at h1 h2; omega
    · rw [if_neg e1] at h
      simp at h
      by_cases e2 : b.length = a.length
      · rw [if_neg (by omega)] at h2; simp at h2; omega
      · rw [if_neg e2] at h1
        simp at h1
        by_cases e3 : c.length = b.length
        · omega
        · rw [if_neg e3] at h2; simp at h2; omega
theorem lessL_cons (x : Nat) (a b : List Nat) : lessL (x :: a) (x :: b) = lessL a b := by
  simp [lessL, lexLt]
theorem lessL_asymm (a b : List Nat) (h : lessL a b = true) : lessL b a = false := by
  unfold lessL at h ⊢
  by_cases e : a.length = b.length
  · rw [if_pos e] at h; rw [if_pos e.symm]; exact lexLt_asymm a b h
  · rw [if_neg e] at h; rw [if_neg (Ne.symm e)]; simp at h ⊢; omega

/-- The best list from v. -/
def Best (E : List (BitVec 32)) (src dst : Nat) (inner : BitVec 32) (p : List Nat) : Prop :=
  IsP E src dst inner p ∧ p.head? = some src ∧ ∀ q, IsP E src dst inner q → q.head? = some src → lessL q p = false
theorem best_uniq {E : List (BitVec 32)} {src dst : Nat} {inner : BitVec 32} {p q : List Nat} (h : Best E src dst inner p) (h' : Best E src dst inner q) : p = q :=
  lessL_total p q (h'.2.2 p h.1 h.2.1) (h.2.2 q h'.1 h'.2.1)
end Go.Proofs.YtaongngoacbodaaDoor
