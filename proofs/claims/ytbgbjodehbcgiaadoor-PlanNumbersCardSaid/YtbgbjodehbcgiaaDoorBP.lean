/- Several texts in one: PathLaw PathLaw2 PathLaw3 Path1 RLeast RPath InnerLaw WalksLaw. -/
import Derived.Test.YtbgbjodehbcgiaaDoorBA
import Derived.Deep.DeepCutAuto
import Derived.Deep.LoopGhost
import Derived.Deep.CutBlock
import Derived.Deep.CutRange
import Derived.Deep.RegionLaw
import Derived.Deep.AppendLies
import Derived.Deep.DrawnRows
/- The plain law of paths: the least of the shortest lists that lead to an end; what a search by layers finds, and what making better as long as it can be finds. No program in sight. -/
namespace Go.Proofs.YtbgbjodehbcgiaaDoor

/-! ### The vertices of a set, rising -/
def bitsOf (s : BitVec 32) : List Nat := (List.range 32).filter fun v => s.getLsbD v
theorem mem_bitsOf {s : BitVec 32} {v : Nat} : v ∈ bitsOf s ↔ s.getLsbD v = true := by
  unfold bitsOf
  rw [List.mem_filter, List.mem_range]
  refine ⟨fun h => h.2, fun h => ⟨?_, h⟩⟩
  rcases Nat.lt_or_ge v 32 with c | c
  · exact c
  · rw [BitVec.getLsbD_of_ge _ _ c] at h; cases h
theorem lt_of_bit {s : BitVec 32} {v : Nat} (h : s.getLsbD v = true) : v < 32 := by
  rcases Nat.lt_or_ge v 32 with c | c
  · exact c
  · rw [BitVec.getLsbD_of_ge _ _ c] at h; cases h
theorem bitsOf_zero : bitsOf 0#32 = [] := by decide
theorem bitsOf_sorted (s : BitVec 32) : (bitsOf s).Pairwise (· < ·) := by
  unfold bitsOf
  exact List.Pairwise.filter _ List.pairwise_lt_range
theorem ctz_spec (s : BitVec 32) (h : s ≠ 0#32) : s.getLsbD (ctz s) = true ∧ (∀ i, i < ctz s → s.getLsbD i = false) ∧ ∀ i, (s &&& (s - 1#32)).getLsbD i = (decide (ctz s < i) && s.getLsbD i) := by
  have hx0 : 0 < s.toNat := by
    rcases Nat.eq_zero_or_pos s.toNat with c | c
    · exact absurd (BitVec.eq_of_toNat_eq (by simpa using c)) h
    · exact c
  have hc : ctz s = Lib.ctzFrom 32 s.toNat := by unfold ctz Lib.ctz; rw [if_neg (by omega)]
  obtain ⟨m, hm, hk⟩ := Lib.ctzFrom_spec 32 s.toNat hx0 s.isLt
  rw [← hc] at hm hk
  generalize ctz s = k at hm hk
  have bit : ∀ i, s.getLsbD i = if i < k then false else if i = k then true else m.testBit (i - k - 1) := by
    intro i
    rw [BitVec.getLsbD, hm, Nat.testBit_two_pow_mul]
    rcases Nat.lt_trichotomy i k with c | c | c
    · simp [c, show ¬ k ≤ i by omega]
    · subst c; simp [Nat.testBit_zero]
    · have : i - k = (i - k - 1) + 1 := by omega
      rw [if_neg (by omega), if_neg (by omega), this, Nat.testBit_succ]
      simp [show k ≤ i by omega]
      congr 1
      omega
  have bit1 : ∀ i, (s - 1#32).getLsbD i = if i < k then true else if i = k then false else m.testBit (i - k - 1) := by
    intro i
    have h1 : (s - 1#32).toNat = 2 ^ k * (2 * m) + (2 ^ k - 1) := by
      rw [BitVec.toNat_sub]
      have := s.isLt
      have h2 := Nat.two_pow_pos k
      have h3 : 2 ^ k * (2 * m + 1) = 2 ^ k * (2 * m) + 2 ^ k := by rw [Nat.mul_add]; simp
      simp
      omega
    rw [BitVec.getLsbD, h1, Nat.testBit_two_pow_mul_add _ (by have := Nat.two_pow_pos k; omega)]
    rcases Nat.lt_trichotomy i k with c | c | c
    · simp [c, Nat.testBit_two_pow_sub_one]
    · subst c; simp [Nat.testBit_zero]
    · rw [if_neg (by omega), if_neg (by omega), if_neg (by omega)]
      have : i - k = (i - k - 1) + 1 := by omega
      rw [this, Nat.testBit_succ]
      congr 1
      omega
  refine ⟨by rw [bit]; simp, fun i hi => by rw [bit, if_pos hi], fun i => ?_⟩
  rw [BitVec.getLsbD_and, bit1, bit]
  rcases Nat.lt_trichotomy i k with c | c | c
  · simp [c, show ¬ k < i by omega]
  · subst c; simp
  · simp [c, show ¬ i < k by omega, show ¬ i = k by omega]
theorem sorted_ext : ∀ (l r : List Nat), l.Pairwise (· < ·) → r.Pairwise (· < ·) → (∀ x, x ∈ l ↔ x ∈ r) → l = r
  | [], [], _, _, _ => rfl
  | [], b :: r, _, _, h => absurd ((h b).2 (by simp)) (by simp)
  | a :: l, [], _, _, h => absurd ((h a).1 (by simp)) (by simp)
  | a :: l, b :: r, hl, hr, h => by
    rw [List.pairwise_cons] at hl hr
    have hab : a = b := by
      have h1 := (h a).1 (by simp)
      have h2 := (h b).2 (by simp)
      rw [List.mem_cons] at h1 h2
      rcases h1 with h1 | h1
      · exact h1
      · rcases h2 with h2 | h2
        · exact h2.symm
        · have := hl.1 b h2; have := hr.1 a h1; omega
    subst hab
    congr 1
    refine sorted_ext l r hl.2 hr.2 fun x => ⟨fun hx => ?_, fun hx => ?_⟩
    · have := (h x).1 (List.mem_cons_of_mem _ hx)
      rcases List.mem_cons.1 this with e | e
      · have := hl.1 x hx; omega
      · exact e
    · have := (h x).2 (List.mem_cons_of_mem _ hx)
      rcases List.mem_cons.1 this with e | e
      · have := hr.1 x hx; omega
      · exact e
theorem bitsOf_cons (s : BitVec 32) (h : s ≠ 0#32) : bitsOf s = ctz s :: bitsOf (s &&& (s - 1#32)) := by
  obtain ⟨h1, h2, h3⟩ := ctz_spec s h
  refine sorted_ext _ _ (bitsOf_sorted _) ?_ ?_
  · rw [List.pairwise_cons]
    refine ⟨fun x hx => ?_, bitsOf_sorted _⟩
    rw [mem_bitsOf, h3] at hx
    simp at hx
    exact hx.1
  · intro x
    rw [List.mem_cons, mem_bitsOf, mem_bitsOf, h3]
    rcases Nat.lt_trichotomy x (ctz s) with c | c | c
    · rw [h2 x c]; simp [show ¬ x = ctz s by omega]
    · subst c; simp [h1]
    · simp [c, show ¬ x = ctz s by omega]
theorem bitsOf_len_lt (s : BitVec 32) (h : s ≠ 0#32) : (bitsOf (s &&& (s - 1#32))).length < (bitsOf s).length := by
  rw [bitsOf_cons s h]; simp

/-! ### Neighbours -/
def adj (E : List (BitVec 32)) (v u : Nat) : Prop := v ≠ u ∧ ∃ e, e ∈ E ∧ e.getLsbD v = true ∧ e.getLsbD u = true
theorem adj_symm {E : List (BitVec 32)} {v u : Nat} (h : adj E v u) : adj E u v := ⟨h.1.symm, let ⟨e, he, a, b⟩ := h.2; ⟨e, he, b, a⟩⟩
theorem nearB_iff (E : List (BitVec 32)) (v u : Nat) : nearB E v u = true ↔ adj E v u := by
  unfold nearB adj
  simp only [Bool.and_eq_true, decide_eq_true_eq, List.any_eq_true, inB_nat]
  constructor
  · rintro ⟨h, e, he, a, b⟩; exact ⟨by omega, e, he, a, b⟩
  · rintro ⟨h, e, he, a, b⟩; exact ⟨by omega, e, he, a, b⟩
theorem getLsbD_orAll (l : List (BitVec 32)) (i : Nat) : (orAll l).getLsbD i = l.any fun e => e.getLsbD i := by
  have gen : ∀ (l : List (BitVec 32)) (a : BitVec 32), (l.foldl (· ||| ·) a).getLsbD i = (a.getLsbD i || l.any fun e => e.getLsbD i) := by
    intro l
    induction l with
    | nil => intro a; simp
    | cons x l ih => intro a; rw [List.foldl_cons, ih, BitVec.getLsbD_or, List.any_cons, Bool.or_assoc]
  unfold orAll
  rw [gen]; simp
theorem nearS_iff (E : List (BitVec 32)) (v u : Nat) : (nearS E v).getLsbD u = true ↔ adj E v u := by
  unfold nearS nearU
  rw [BitVec.getLsbD_and, getLsbD_orAll, BitVec.getLsbD_not, BitVec.getLsbD_shiftLeft]
  simp only [Int.toNat_natCast]
  constructor
  · intro h
    simp only [Bool.and_eq_true, List.any_eq_true, List.mem_filter] at h
    obtain ⟨⟨e, ⟨he, hv⟩, hu⟩, h2, h3⟩ := h
    rw [inB_nat] at hv
    have hvlt := lt_of_bit hv
    refine ⟨?_, e, he, hv, hu⟩
    rintro rfl
    simp [hvlt] at h3
  · rintro ⟨hne, e, he, hv, hu⟩
    have hult := lt_of_bit hu
    have hvlt := lt_of_bit hv
    rw [Bool.and_eq_true, List.any_eq_true]
    refine ⟨⟨e, List.mem_filter.2 ⟨he, by rw [inB_nat]; exact hv⟩, hu⟩, ?_⟩
    rcases Nat.lt_or_gt_of_ne hne with c | c
    · simp [hult, show ¬ u < v by omega]; omega
    · simp [hult, c]

/-! ### Lists that lead to the end -/
section
variable (E : List (BitVec 32)) (src dst : Nat) (inner : BitVec 32)
/-- May the vertex stand in a list behind its head? -/
def okV (u : Nat) : Prop := u ≠ src ∧ (u = dst ∨ inner.getLsbD u = true)
def IsP : List Nat → Prop
  | [] => False
  | [v] => v = dst
  | v :: u :: r => v ≠ dst ∧ adj E v u ∧ okV src dst inner u ∧ IsP (u :: r)
/-- A list from v with n steps. -/
def Reach (n : Nat) (v : Nat) : Prop := ∃ p, IsP E src dst inner (v :: p) ∧ p.length = n
/-- .. and none with fewer. -/
def RMin (n : Nat) (v : Nat) : Prop := Reach E src dst inner n v ∧ ∀ m, m < n → ¬ Reach E src dst inner m v
variable {E src dst inner}
theorem reach_zero {v : Nat} : Reach E src dst inner 0 v ↔ v = dst := by
  constructor
  · rintro ⟨p, h, hl⟩
    have : p = [] := List.eq_nil_of_length_eq_zero hl
    subst this; exact h
  · rintro rfl; exact ⟨[], rfl, rfl⟩
theorem reach_succ {v n : Nat} : Reach E src dst inner (n + 1) v ↔ v ≠ dst ∧ ∃ u, adj E v u ∧ okV src dst inner u ∧ Reach E src dst inner n u := by
  constructor
  · rintro ⟨p, h, hl⟩
    match p, hl with
    | u :: r, hl => exact ⟨h.1, u, h.2.1, h.2.2.1, r, h.2.2.2, by simpa using hl⟩
  · rintro ⟨h1, u, h2, h3, r, h4, h5⟩
    exact ⟨u :: r, ⟨h1, h2, h3, h4⟩, by simp [h5]⟩
theorem rmin_zero {v : Nat} : RMin E src dst inner 0 v ↔ v = dst := by
  unfold RMin; rw [reach_zero]; simp
theorem rmin_uniq {v n m : Nat} (h : RMin E src dst inner n v) (h' : RMin E src dst inner m v) : n = m := by
  rcases Nat.lt_trichotomy n m with c | c | c
  · exact absurd h.1 (h'.2 n c)
  · exact c
  · exact absurd h'.1 (h.2 m c)
theorem rmin_of_reach {v : Nat} : ∀ {n : Nat}, Reach E src dst inner n v → ∃ m, m ≤ n ∧ RMin E src dst inner m v := by
  intro n
  induction n using Nat.strongRecOn with
  | _ n ih =>
    intro h
    by_cases hm : ∃ m, m < n ∧ Reach E src dst inner m v
    · obtain ⟨m, hlt, hr⟩ := hm
      obtain ⟨k, hk, hkm⟩ := ih m hlt hr
      exact ⟨k, by omega, hkm⟩
    · exact ⟨n, Nat.le_refl _, h, fun m hlt hr => hm ⟨m, hlt, hr⟩⟩
/-- The next vertex of a shortest list is one step nearer. -/
theorem rmin_succ {v n : Nat} (h : RMin E src dst inner (n + 1) v) : v ≠ dst ∧ ∃ u, adj E v u ∧ okV src dst inner u ∧ RMin E src dst inner n u := by
  obtain ⟨h1, u, h2, h3, h4⟩ := reach_succ.1 h.1
  refine ⟨h1, u, h2, h3, h4, fun m hm hr => ?_⟩
  exact h.2 (m + 1) (by omega) (reach_succ.2 ⟨h1, u, h2, h3, hr⟩)
theorem rmin_succ_of {v u n : Nat} (h1 : v ≠ dst) (h2 : adj E v u) (h3 : okV src dst inner u) (h4 : RMin E src dst inner n u) (hno : ∀ m, m ≤ n → ¬ RMin E src dst inner m v) : RMin E src dst inner (n + 1) v := by
  refine ⟨reach_succ.2 ⟨h1, u, h2, h3, h4.1⟩, fun m hm hr => ?_⟩
  obtain ⟨k, hk, hkm⟩ := rmin_of_reach hr
  exact hno k (by omega) hkm
/-- On the way of a shortest list each number of steps up to its own is met. -/
theorem rmin_down {v n m : Nat} (h : RMin E src dst inner n v) (hm : m < n) : ∃ u, okV src dst inner u ∧ RMin E src dst inner m u := by
  induction n generalizing v with
  | zero => omega
  | succ n ih =>
    obtain ⟨_, u, _, h3, h4⟩ := rmin_succ h
    rcases Nat.lt_or_ge m n with c | c
    · exact ih h4 c
    · obtain rfl : m = n := by omega
      exact ⟨u, h3, h4⟩
end

/-! ### The order of lists: the shorter first, of one length the less -/
def lexLt : List Nat → List Nat → Bool
  | a :: l, b :: r => if a = b then lexLt l r else decide (a < b)
  | _, _ => false
def lessL (a b : List Nat) : Bool := if a.length = b.length then lexLt a b else decide (a.length < b.length)
theorem lexLt_total : ∀ (a b : List Nat), a.length = b.length → lexLt a b = false → lexLt b a = false → a = b
  | [], [], _, _, _ => rfl
  | x :: a, y :: b, hl, h1, h2 => by
    unfold lexLt at h1 h2
    by_cases e : x = y
    · subst e
      simp at h1 h2
      rw [lexLt_total a b (by simpa using hl) h1 h2]
    · rw [if_neg e] at h1
      rw [if_neg (Ne.symm e)] at h2
      simp at h1 h2
      omega
theorem lessL_total (a b : List Nat) (h1 : lessL a b = false) (h2 : lessL b a = false) : a = b := by
  unfold lessL at h1 h2
  by_cases e : a.length = b.length
  · rw [if_pos e] at h1
    rw [if_pos e.symm] at h2
    exact lexLt_total a b e h1 h2
  · rw [if_neg e] at h1
    rw [if_neg (Ne.symm e)] at h2
    simp at h1 h2
    omega
theorem lexLt_irrefl : ∀ a, lexLt a a = false
  | [] => rfl
  | x :: a => by simp [lexLt, lexLt_irrefl a]
theorem lessL_irrefl (a : List Nat) : lessL a a = false := by simp [lessL, lexLt_irrefl]
theorem lexLt_trans : ∀ (a b c : List Nat), lexLt a b = true → lexLt b c = true → lexLt a c = true
  | x :: a, y :: b, z :: c, h1, h2 => by
    unfold lexLt at h1 h2 ⊢
    by_cases e1 : x = y
    · subst e1
      by_cases e2 : x = z
      · subst e2
        simp at h1 h2 ⊢
        exact lexLt_trans a b c h1 h2
      · simpa [e2] using h2
    · rw [if_neg e1] at h1
      by_cases e2 : y = z
      · subst e2; rw [if_neg e1]; exact h1
      · rw [if_neg e2] at h2
        simp at h1 h2
        rw [if_neg (by omega)]; simp; omega
theorem lexLt_asymm (a b : List Nat) (h : lexLt a b = true) : lexLt b a = false := by
  cases hb : lexLt b a
  · rfl
  · have := lexLt_trans a b a h hb
    rw [lexLt_irrefl] at this; cases this
/-- 'not less' is an order, too. -/
theorem lessL_not_trans (a b c : List Nat) (h1 : lessL b a = false) (h2 : lessL c b = false) : lessL c a = false := by
  cases h : lessL c a
  · rfl
  · exfalso
    unfold lessL at h h1 h2
    by_cases e1 : c.length = a.length
    · rw [if_pos e1] at h
      by_cases e2 : b.length = a.length
      · rw [if_pos e2] at h1
        rw [if_pos (by omega)] at h2
        cases hba : lexLt a b
        · have := lexLt_total b a e2 h1 hba
          subst this; rw [h] at h2; cases h2
        · have := lexLt_trans c a b h hba
          rw [h2] at this; cases this
      · rw [if_neg e2] at h1
        rw [if_neg (by omega)] at h2
        simp at h1 h2; omega
    · rw [if_neg e1] at h
      simp at h
      by_cases e2 : b.length = a.length
      · rw [if_neg (by omega)] at h2; simp at h2; omega
      · rw [if_neg e2] at h1
        simp at h1
        by_cases e3 : c.length = b.length
        · omega
        · rw [if_neg e3] at h2; simp at h2; omega
theorem lessL_cons (x : Nat) (a b : List Nat) : lessL (x :: a) (x :: b) = lessL a b := by
  simp [lessL, lexLt]
theorem lessL_asymm (a b : List Nat) (h : lessL a b = true) : lessL b a = false := by
  unfold lessL at h ⊢
  by_cases e : a.length = b.length
  · rw [if_pos e] at h; rw [if_pos e.symm]; exact lexLt_asymm a b h
  · rw [if_neg e] at h; rw [if_neg (Ne.symm e)]; simp at h ⊢; omega

/-- The best list from v. -/
def Best (E : List (BitVec 32)) (src dst : Nat) (inner : BitVec 32) (p : List Nat) : Prop :=
  IsP E src dst inner p ∧ p.head? = some src ∧ ∀ q, IsP E src dst inner q → q.head? = some src → lessL q p = false
theorem best_uniq {E : List (BitVec 32)} {src dst : Nat} {inner : BitVec 32} {p q : List Nat} (h : Best E src dst inner p) (h' : Best E src dst inner q) : p = q :=
  lessL_total p q (h'.2.2 p h.1 h.2.1) (h.2.2 q h'.1 h'.2.1)
end Go.Proofs.YtbgbjodehbcgiaaDoor

/- The plain law of paths, second part: the search by layers; the walk along it; making better. No program in sight. -/
namespace Go.Proofs.YtbgbjodehbcgiaaDoor

theorem pigeon : ∀ (V : Nat) (l : List Nat), l.Nodup → (∀ x, x ∈ l → x < V) → l.length ≤ V
  | 0, l, _, h => by
    cases l with
    | nil => simp
    | cons a l => exact absurd (h a (by simp)) (by omega)
  | V + 1, l, hn, h => by
    have h1 : (l.erase V).length ≤ V := pigeon V _ (hn.erase V) fun x hx => by
      have := (hn.mem_erase_iff).1 hx
      have := h x this.2
      omega
    have h2 : l.length - 1 ≤ (l.erase V).length := by
      by_cases c : V ∈ l
      · rw [List.length_erase_of_mem c]; exact Nat.le_refl _
      · rw [List.erase_of_not_mem c]; omega
    omega
theorem bitsOf_mono {s t : BitVec 32} (h : ∀ i, t.getLsbD i = true → s.getLsbD i = true) (k : Nat) (hk : s.getLsbD k = true) (hk' : t.getLsbD k = false) : (bitsOf t).length < (bitsOf s).length := by
  have e : bitsOf t = (bitsOf s).filter fun v => t.getLsbD v := by
    refine sorted_ext _ _ (bitsOf_sorted _) (List.Pairwise.filter _ (bitsOf_sorted _)) fun x => ?_
    rw [List.mem_filter, mem_bitsOf, mem_bitsOf]
    exact ⟨fun hx => ⟨h x hx, hx⟩, fun hx => hx.2⟩
  rw [e]
  refine Nat.lt_of_le_of_ne (List.length_filter_le _ _) fun heq => ?_
  have := List.length_filter_eq_length_iff.1 heq k (mem_bitsOf.2 hk)
  rw [hk'] at this; cases this

section
variable {E : List (BitVec 32)} {src dst V : Nat} {inner inn : BitVec 32}

/-- What is given: vertices within V; 'inn' is 'inner' cut to what may stand between. -/
structure Given (E : List (BitVec 32)) (src dst V : Nat) (inner inn : BitVec 32) : Prop where
  edge : ∀ e, e ∈ E → ∀ u, e.getLsbD u = true → u < V
  hsrc : src < V
  hdst : dst < V
  ne : src ≠ dst
  small : V ≤ 30
  inn : ∀ u, inn.getLsbD u = true ↔ (inner.getLsbD u = true ∧ u ≠ src ∧ u ≠ dst ∧ u < V)
theorem Given.adj_lt (h : Given E src dst V inner inn) {v u : Nat} (ha : adj E v u) : v < V ∧ u < V := by
  obtain ⟨_, e, he, a, b⟩ := ha
  exact ⟨h.edge e he v a, h.edge e he u b⟩
theorem Given.inn_of_ok (h : Given E src dst V inner inn) {u : Nat} (h1 : okV src dst inner u) (h2 : u ≠ dst) (h3 : u < V) : inn.getLsbD u = true :=
  (h.inn u).2 ⟨h1.2.resolve_left h2, h1.1, h2, h3⟩
theorem Given.ok_of_inn (h : Given E src dst V inner inn) {u : Nat} (h1 : inn.getLsbD u = true) : okV src dst inner u := by
  obtain ⟨a, b, _, _⟩ := (h.inn u).1 h1
  exact ⟨b, .inr a⟩

/-- Where the search stands: 'f' the steps that are known, all numbers below n. -/
structure Inv (E : List (BitVec 32)) (src dst : Nat) (inner inn : BitVec 32) (n : Nat) (f : Nat → Nat) (layer seen : BitVec 32) : Prop where
  lo : 1 ≤ n
  a : ∀ v, f v ≠ 0 → f v < n ∧ RMin E src dst inner (f v) v
  b : ∀ v m, (v = src ∨ inn.getLsbD v = true) → 1 ≤ m → m < n → RMin E src dst inner m v → f v = m
  c : ∀ v, seen.getLsbD v = true ↔ (v = dst ∨ f v ≠ 0)
  d : ∀ v, layer.getLsbD v = true ↔ (okV src dst inner v ∧ RMin E src dst inner (n - 1) v)

theorem getLsbD_one_shl (k i : Nat) (hk : k < 32) : (1#32 <<< k).getLsbD i = decide (i = k) := by
  rw [BitVec.getLsbD_shiftLeft]
  rcases Nat.lt_trichotomy i k with c | c | c
  · simp [c, show ¬ i = k by omega]
  · subst c; simp [hk]
  · have : i - k ≠ 0 := by omega
    simp [show ¬ i < k by omega, show ¬ i = k by omega, this]

theorem Inv.start (h : Given E src dst V inner inn) : Inv E src dst inner inn 1 (fun _ => 0) (1#32 <<< dst) (1#32 <<< dst) := by
  have hd : dst < 32 := by have := h.hdst; have := h.small; omega
  refine ⟨Nat.le_refl _, fun v hv => absurd rfl hv, fun v m _ h1 h2 _ => by omega, fun v => ?_, fun v => ?_⟩
  · rw [getLsbD_one_shl _ _ hd]; simp
  · rw [getLsbD_one_shl _ _ hd, show 1 - 1 = 0 from rfl, rmin_zero]
    simp only [decide_eq_true_eq]
    exact ⟨fun e => ⟨⟨by rw [e]; exact h.ne.symm, .inl e⟩, e⟩, fun e => e.2⟩

/-- The next layer, before what may not be passed is taken out. -/
def nearAll (E : List (BitVec 32)) (s : BitVec 32) : BitVec 32 := orAll ((bitsOf s).map fun (v : Nat) => nearS E (v : Int))
theorem nearAll_iff (E : List (BitVec 32)) (s : BitVec 32) (v : Nat) : (nearAll E s).getLsbD v = true ↔ ∃ u, s.getLsbD u = true ∧ adj E u v := by
  unfold nearAll
  rw [getLsbD_orAll, List.any_eq_true]
  constructor
  · rintro ⟨x, hx, hv⟩
    obtain ⟨u, hu, rfl⟩ := List.mem_map.1 hx
    exact ⟨u, mem_bitsOf.1 hu, (nearS_iff E u v).1 hv⟩
  · rintro ⟨u, hu, ha⟩
    exact ⟨_, List.mem_map.2 ⟨u, mem_bitsOf.2 hu, rfl⟩, (nearS_iff E u v).2 ha⟩
def nextL (E : List (BitVec 32)) (src : Nat) (inn layer seen : BitVec 32) : BitVec 32 := nearAll E layer &&& ((inn ||| 1#32 <<< src) &&& ~~~seen)
theorem Inv.next_iff (h : Given E src dst V inner inn) {n : Nat} {f : Nat → Nat} {layer seen : BitVec 32} (hi : Inv E src dst inner inn n f layer seen) (v : Nat) :
    (nextL E src inn layer seen).getLsbD v = true ↔ (RMin E src dst inner n v ∧ (v = src ∨ okV src dst inner v)) := by
  have hs : src < 32 := by have := h.hsrc; have := h.small; omega
  have hlo := hi.lo
  unfold nextL
  rw [BitVec.getLsbD_and, BitVec.getLsbD_and, BitVec.getLsbD_or, getLsbD_one_shl _ _ hs, BitVec.getLsbD_not, Bool.and_eq_true, nearAll_iff, Bool.and_eq_true, Bool.or_eq_true, Bool.and_eq_true, decide_eq_true_eq, decide_eq_true_eq, Bool.not_eq_true']
  constructor
  · rintro ⟨⟨u, hu, ha⟩, hadm, hv, hns⟩
    obtain ⟨ho, hr⟩ := (hi.d u).1 hu
    have hnd : v ≠ dst := fun e => by
      have := (hi.c v).2 (.inl e)
      rw [hns] at this; cases this
    have hadm' : v = src ∨ inn.getLsbD v = true := hadm.symm
    refine ⟨?_, hadm'.imp id h.ok_of_inn⟩
    have := rmin_succ_of hnd (adj_symm ha) ho hr fun m hm hrm => ?_
    · rwa [Nat.sub_add_cancel hlo] at this
    · rcases Nat.eq_zero_or_pos m with e | e
      · subst e; exact hnd (rmin_zero.1 hrm)
      · have hf := hi.b v m hadm' e (by omega) hrm
        have := (hi.c v).2 (.inr (by omega))
        rw [hns] at this; cases this
  · rintro ⟨hr, hadm⟩
    obtain ⟨k, rfl⟩ : ∃ k, n = k + 1 := ⟨n - 1, by omega⟩
    obtain ⟨hnd, u, ha, ho, hru⟩ := rmin_succ hr
    have hvlt := (h.adj_lt ha).1
    refine ⟨⟨u, (hi.d u).2 ⟨ho, by simpa using hru⟩, adj_symm ha⟩, ?_, by have := h.small; omega, ?_⟩
    · rcases hadm with e | e
      · exact .inr e
      · exact .inl (h.inn_of_ok e hnd hvlt)
    · cases hseen : seen.getLsbD v
      · rfl
      · rcases (hi.c v).1 hseen with e | e
        · exact absurd e hnd
        · have := (hi.a v e)
          have := rmin_uniq hr this.2
          omega
theorem Inv.step (h : Given E src dst V inner inn) {n : Nat} {f : Nat → Nat} {layer seen : BitVec 32} (hi : Inv E src dst inner inn n f layer seen) :
    Inv E src dst inner inn (n + 1) (fun v => if (nextL E src inn layer seen).getLsbD v = true then n else f v) (nextL E src inn layer seen &&& ~~~(1#32 <<< src)) (seen ||| nextL E src inn layer seen) := by
  have hs : src < 32 := by have := h.hsrc; have := h.small; omega
  have hlo := hi.lo
  have key := hi.next_iff h
  generalize hN : nextL E src inn layer seen = N at key
  refine ⟨by omega, fun v hv => ?_, fun v m hadm h1 h2 hr => ?_, fun v => ?_, fun v => ?_⟩
  · by_cases c : N.getLsbD v = true
    · rw [if_pos c]; exact ⟨by omega, ((key v).1 c).1⟩
    · rw [if_neg c] at hv ⊢
      have := hi.a v hv
      exact ⟨by omega, this.2⟩
  · by_cases c : N.getLsbD v = true
    · rw [if_pos c]; exact rmin_uniq ((key v).1 c).1 hr
    · rw [if_neg c]
      rcases Nat.lt_or_ge m n with e | e
      · exact hi.b v m hadm h1 e hr
      · obtain rfl : m = n := by omega
        exact absurd ((key v).2 ⟨hr, hadm.imp id h.ok_of_inn⟩) c
  · rw [BitVec.getLsbD_or, Bool.or_eq_true, hi.c]
    by_cases c : N.getLsbD v = true
    · simp only [c, if_true, or_true, true_iff]
      exact .inr (by omega)
    · simp only [c, if_false, or_false, Bool.false_eq_true]
  · rw [BitVec.getLsbD_and, BitVec.getLsbD_not, getLsbD_one_shl _ _ hs, Bool.and_eq_true, key, Bool.and_eq_true, decide_eq_true_eq, Bool.not_eq_true', decide_eq_false_iff_not, show n + 1 - 1 = n by omega]
    constructor
    · rintro ⟨⟨hr, hadm⟩, _, hne⟩
      exact ⟨hadm.resolve_left hne, hr⟩
    · rintro ⟨ho, hr⟩
      obtain ⟨k, rfl⟩ : ∃ k, n = k + 1 := ⟨n - 1, by omega⟩
      obtain ⟨_, u, ha, _, _⟩ := rmin_succ hr
      have := (h.adj_lt ha).1
      exact ⟨⟨hr, .inr ho⟩, by have := h.small; omega, ho.1⟩
/-- Nothing more is found: there is no list. -/
theorem Inv.none (h : Given E src dst V inner inn) {n : Nat} {f : Nat → Nat} {seen : BitVec 32} (hi : Inv E src dst inner inn n f 0#32 seen) (h0 : f src = 0) : ∀ p, IsP E src dst inner p → p.head? ≠ some src := by
  intro p hp hh
  match p, hp, hh with
  | v :: r, hp, hh =>
    obtain rfl : v = src := by simpa using hh
    obtain ⟨m, _, hm⟩ := rmin_of_reach (E := E) (src := v) (dst := dst) (inner := inner) (v := v) ⟨r, hp, rfl⟩
    rcases Nat.eq_zero_or_pos m with e | e
    · subst e; exact h.ne (rmin_zero.1 hm)
    · rcases Nat.lt_or_ge m n with c | c
      · have := hi.b v m (.inl rfl) e c hm
        omega
      · have hlo := hi.lo
        obtain ⟨u, ho, hu⟩ := rmin_down hm (show n - 1 < m by omega)
        have := (hi.d u).2 ⟨ho, hu⟩
        simp at this
/-- How many rounds are still to come at most. -/
def roundsLeft (layer seen : BitVec 32) : Nat := if layer = 0#32 then 0 else 1 + (bitsOf (~~~seen)).length
theorem roundsLeft_step (E : List (BitVec 32)) (src : Nat) (inn layer seen : BitVec 32) (hl : layer ≠ 0#32) :
    roundsLeft (nextL E src inn layer seen &&& ~~~(1#32 <<< src)) (seen ||| nextL E src inn layer seen) < roundsLeft layer seen := by
  unfold roundsLeft
  rw [if_neg hl]
  split
  · omega
  · rename_i hne
    have hne' : nextL E src inn layer seen ≠ 0#32 := fun e => hne (by rw [e]; simp)
    have hb := (ctz_spec _ hne').1
    have hcl := lt_of_bit hb
    have hns : seen.getLsbD (ctz (nextL E src inn layer seen)) = false := by
      have hb' := hb
      unfold nextL at hb'
      rw [BitVec.getLsbD_and, BitVec.getLsbD_and, BitVec.getLsbD_not] at hb'
      simp only [Bool.and_eq_true, Bool.not_eq_true'] at hb'
      exact hb'.2.2.2
    have : (bitsOf (~~~(seen ||| nextL E src inn layer seen))).length < (bitsOf (~~~seen)).length := by
      refine bitsOf_mono (fun i hi => ?_) (ctz (nextL E src inn layer seen)) ?_ ?_
      · have := lt_of_bit hi
        simp only [BitVec.getLsbD_not, BitVec.getLsbD_or, this, decide_true, Bool.true_and, Bool.not_or, Bool.and_eq_true] at hi ⊢
        exact hi.1
      · rw [BitVec.getLsbD_not, hns]; simp [hcl]
      · rw [BitVec.getLsbD_not, BitVec.getLsbD_or, hb]; simp
    omega

/-! ### Along the numbers -/
/-- The least neighbour that may be passed and is d steps from the end. -/
def pickV (E : List (BitVec 32)) (inn : BitVec 32) (f : Nat → Nat) (d v : Nat) : Nat := ((bitsOf (nearS E (v : Int) &&& inn)).find? fun u => f u == d).getD 0
/-- The way that is taken: d steps from v. -/
def gr (E : List (BitVec 32)) (dst : Nat) (inn : BitVec 32) (f : Nat → Nat) : Nat → Nat → List Nat
  | 0, v => [v]
  | 1, v => [v, dst]
  | d + 2, v => v :: gr E dst inn f (d + 1) (pickV E inn f (d + 1) v)
theorem find_least {l : List Nat} {p : Nat → Bool} {x : Nat} (hl : l.Pairwise (· < ·)) (h : l.find? p = some x) : p x = true ∧ x ∈ l ∧ ∀ y, y ∈ l → p y = true → x ≤ y := by
  refine ⟨List.find?_some h, List.mem_of_find?_eq_some h, fun y hy hp => ?_⟩
  induction l with
  | nil => cases hy
  | cons a l ih =>
    rw [List.pairwise_cons] at hl
    by_cases c : p a = true
    · rw [List.find?_cons_of_pos c] at h
      obtain rfl : a = x := by simpa using h
      rcases List.mem_cons.1 hy with e | e
      · omega
      · have := hl.1 y e; omega
    · rw [List.find?_cons_of_neg c] at h
      rcases List.mem_cons.1 hy with e | e
      · subst e; exact absurd hp c
      · exact ih hl.2 h e
theorem pick_spec (h : Given E src dst V inner inn) {n : Nat} {f : Nat → Nat} {layer seen : BitVec 32} (hi : Inv E src dst inner inn n f layer seen) {d v : Nat} (hd : 1 ≤ d) (hdn : d < n) (hr : RMin E src dst inner (d + 1) v) :
    ∃ u, (bitsOf (nearS E (v : Int) &&& inn)).find? (fun u => f u == d) = some u ∧ pickV E inn f d v = u ∧ adj E v u ∧ inn.getLsbD u = true ∧ f u = d ∧ RMin E src dst inner d u ∧ ∀ y, adj E v y → okV src dst inner y → RMin E src dst inner d y → u ≤ y := by
  have ex : ∀ y, adj E v y → okV src dst inner y → RMin E src dst inner d y → y ∈ bitsOf (nearS E (v : Int) &&& inn) ∧ f y = d := by
    intro y ha ho hy
    have hyd : y ≠ dst := fun e => by
      subst e
      have := rmin_uniq hy (rmin_zero.2 rfl)
      omega
    have hin := h.inn_of_ok ho hyd (h.adj_lt ha).2
    refine ⟨mem_bitsOf.2 ?_, hi.b y d (.inr hin) hd hdn hy⟩
    rw [BitVec.getLsbD_and, hin, (nearS_iff E v y).2 ha]; rfl
  obtain ⟨_, y, ha, ho, hy⟩ := rmin_succ hr
  cases hf : (bitsOf (nearS E (v : Int) &&& inn)).find? fun u => f u == d with
  | none =>
    have := List.find?_eq_none.1 hf y (ex y ha ho hy).1
    exact absurd (beq_iff_eq.2 (ex y ha ho hy).2) this
  | some u =>
    obtain ⟨h1, h2, h3⟩ := find_least (bitsOf_sorted _) hf
    have h1' : f u = d := beq_iff_eq.1 h1
    have h2' := mem_bitsOf.1 h2
    rw [BitVec.getLsbD_and, Bool.and_eq_true] at h2'
    refine ⟨u, rfl, by unfold pickV; rw [hf]; rfl, (nearS_iff E v u).1 h2'.1, h2'.2, h1', ?_, fun z a o r => h3 z (ex z a o r).1 (beq_iff_eq.2 (ex z a o r).2)⟩
    have := (hi.a u (by omega)).2
    rwa [h1'] at this
theorem gr_best (h : Given E src dst V inner inn) {n : Nat} {f : Nat → Nat} {layer seen : BitVec 32} (hi : Inv E src dst inner inn n f layer seen) :
    ∀ d, 1 ≤ d → d ≤ n → ∀ v, RMin E src dst inner d v → IsP E src dst inner (gr E dst inn f d v) ∧ (gr E dst inn f d v).head? = some v ∧ (gr E dst inn f d v).length = d + 1 ∧
      ∀ q, IsP E src dst inner q → q.head? = some v → lessL q (gr E dst inn f d v) = false
  | 0, h0, _, _, _ => by omega
  | 1, _, _, v, hr => by
    obtain ⟨hv, u, ha, ho, hu⟩ := rmin_succ hr
    obtain rfl : u = dst := rmin_zero.1 hu
    refine ⟨⟨hv, ha, ho, rfl⟩, rfl, rfl, fun q hq hh => ?_⟩
    match q, hq, hh with
    | [x], hq, hh =>
      obtain rfl : x = v := by simpa using hh
      exact absurd hq hv
    | [x, y], hq, hh =>
      obtain rfl : x = v := by simpa using hh
      obtain rfl : y = u := hq.2.2.2
      exact lessL_irrefl _
    | x :: y :: z :: r, _, _ => simp [lessL, gr]
  | d + 2, _, hdn, v, hr => by
    obtain ⟨w, _, hpick, ha, hin, hfw, hrw, hmin⟩ := pick_spec h hi (show 1 ≤ d + 1 by omega) (by omega) hr
    obtain ⟨i1, i2, i3, i4⟩ := gr_best h hi (d + 1) (by omega) (by omega) w hrw
    have hv := (rmin_succ hr).1
    have e : gr E dst inn f (d + 2) v = v :: gr E dst inn f (d + 1) w := by rw [← hpick]; rfl
    rw [e]
    have hcons : ∃ r, gr E dst inn f (d + 1) w = w :: r := by
      cases hg : gr E dst inn f (d + 1) w with
      | nil => rw [hg] at i2; cases i2
      | cons a r => rw [hg] at i2; obtain rfl : a = w := by simpa using i2
                    exact ⟨r, rfl⟩
    obtain ⟨r0, hr0⟩ := hcons
    refine ⟨?_, rfl, by simp [i3], fun q hq hh => ?_⟩
    · rw [hr0] at i1 ⊢
      exact ⟨hv, ha, h.ok_of_inn hin, i1⟩
    · match q, hq, hh with
      | [x], hq, hh =>
        obtain rfl : x = v := by simpa using hh
        exact absurd hq hv
      | x :: y :: r, hq, hh =>
        obtain rfl : x = v := by simpa using hh
        rw [lessL_cons]
        obtain ⟨_, hay, hoy, hqy⟩ := hq
        have hlen : d + 1 ≤ r.length := by
          rcases Nat.lt_or_ge r.length (d + 1) with c | c
          · exact absurd (reach_succ.2 ⟨hv, y, hay, hoy, r, hqy, rfl⟩) (hr.2 (r.length + 1) (by omega))
          · exact c
        rcases Nat.lt_or_ge (d + 1) r.length with c | c
        · unfold lessL
          rw [if_neg (by rw [i3]; simp; omega), i3]
          simp; omega
        · have hy : RMin E src dst inner (d + 1) y := by
            refine ⟨⟨r, hqy, by omega⟩, fun m hm hrm => ?_⟩
            exact hr.2 (m + 1) (by omega) (reach_succ.2 ⟨hv, y, hay, hoy, hrm⟩)
          have hle := hmin y hay hoy hy
          rcases Nat.lt_or_ge w y with c2 | c2
          · rw [hr0]
            rw [hr0] at i3
            have i3' : r0.length = d + 1 := by simpa using i3
            have e1 : (y :: r).length = (w :: r0).length := by simp; omega
            unfold lessL
            rw [if_pos e1]
            unfold lexLt
            rw [if_neg (by omega)]
            simp; omega
          · obtain rfl : y = w := by omega
            exact i4 _ hqy rfl
theorem gr_is_best (h : Given E src dst V inner inn) {n : Nat} {f : Nat → Nat} {layer seen : BitVec 32} (hi : Inv E src dst inner inn n f layer seen) (h0 : f src ≠ 0) : Best E src dst inner (gr E dst inn f (f src) src) := by
  obtain ⟨h1, h2⟩ := hi.a src h0
  obtain ⟨a, b, _, d⟩ := gr_best h hi (f src) (by omega) (by omega) src h2
  exact ⟨a, b, d⟩

/-! ### Making better -/
def leastL (a b : List Nat) : List Nat := if a = [] ∨ (b ≠ [] ∧ lessL b a = true) then b else a
theorem leastL_left (a b : List Nat) (ha : a ≠ []) : lessL a (leastL a b) = false := by
  unfold leastL
  split
  · rename_i h
    rcases h with h | h
    · exact absurd h ha
    · exact lessL_asymm _ _ h.2
  · exact lessL_irrefl _
theorem leastL_right (a b : List Nat) (hb : b ≠ []) : lessL b (leastL a b) = false := by
  unfold leastL
  split
  · exact lessL_irrefl _
  · rename_i h
    cases c : lessL b a
    · rfl
    · exact absurd (.inr ⟨hb, c⟩) h
theorem leastL_ne (a b : List Nat) (h : a ≠ [] ∨ b ≠ []) : leastL a b ≠ [] := by
  unfold leastL
  split
  · rename_i c
    rcases c with c | c
    · exact h.resolve_left (fun e => e c)
    · exact c.1
  · rename_i c
    intro e; exact c (.inl e)
/-- The lists are lists, and none of at most r + 1 vertices is better. -/
structure Bst (E : List (BitVec 32)) (src dst V : Nat) (inner : BitVec 32) (r : Nat) (b : Nat → List Nat) : Prop where
  is : ∀ v, b v ≠ [] → IsP E src dst inner (b v) ∧ (b v).head? = some v
  low : ∀ v, v < V → ∀ q, IsP E src dst inner q → q.head? = some v → q.length ≤ r + 1 → b v ≠ [] ∧ lessL q (b v) = false
/-- In the midst of a round: v is being looked at, with all up to w. -/
structure Mid (E : List (BitVec 32)) (src dst V : Nat) (inner : BitVec 32) (r : Nat) (b : Nat → List Nat) (v w : Nat) : Prop where
  is : ∀ v, b v ≠ [] → IsP E src dst inner (b v) ∧ (b v).head? = some v
  low : ∀ v, v < V → ∀ q, IsP E src dst inner q → q.head? = some v → q.length ≤ r + 1 → b v ≠ [] ∧ lessL q (b v) = false
  done : ∀ u, u < v → ∀ q, IsP E src dst inner q → q.head? = some u → q.length ≤ r + 2 → b u ≠ [] ∧ lessL q (b u) = false
  part : ∀ y q, y < w → IsP E src dst inner (v :: y :: q) → q.length ≤ r → b v ≠ [] ∧ lessL (v :: y :: q) (b v) = false
theorem Bst.start (hd : dst < V) : Bst E src dst V inner 0 (fun v => if v = dst then [dst] else []) := by
  refine ⟨fun v hv => ?_, fun v _ q hq hh hl => ?_⟩
  · by_cases c : v = dst
    · subst c; simp [IsP]
    · simp [c] at hv
  · match q, hq, hh, hl with
    | [x], hq, hh, _ =>
      obtain rfl : x = v := by simpa using hh
      obtain rfl : x = dst := hq
      simp [lessL_irrefl]
    | x :: y :: r, _, _, hl => simp at hl
theorem Bst.mid {r : Nat} {b : Nat → List Nat} (h : Bst E src dst V inner r b) : Mid E src dst V inner r b 0 0 :=
  ⟨h.is, h.low, fun u hu => by omega, fun y q hy => by omega⟩
theorem Mid.next (h : Given E src dst V inner inn) {r v : Nat} {b : Nat → List Nat} (hm : Mid E src dst V inner r b v V) (hv : v < V) : Mid E src dst V inner r b (v + 1) 0 := by
  refine ⟨hm.is, hm.low, fun u hu q hq hh hl => ?_, fun y q hy => by omega⟩
  rcases Nat.lt_or_ge u v with c | c
  · exact hm.done u c q hq hh hl
  · obtain rfl : u = v := by omega
    match q, hq, hh, hl with
    | [x], hq, hh, _ => exact hm.low u hv [x] hq hh (by simp)
    | x :: y :: q, hq, hh, hl =>
      obtain rfl : x = u := by simpa using hh
      exact hm.part y q (h.adj_lt hq.2.1).2 hq (by simpa using hl)
theorem Mid.end_ {r : Nat} {b : Nat → List Nat} (hm : Mid E src dst V inner r b V 0) : Bst E src dst V inner (r + 1) b :=
  ⟨hm.is, fun v hv q hq hh hl => hm.done v hv q hq hh (by omega)⟩
/-- The look at v and w finds nothing to do. -/
theorem Mid.skip {r v w : Nat} {b : Nat → List Nat} (hm : Mid E src dst V inner r b v w) (hw : w < V) (hc : v = dst ∨ b w = [] ∨ ¬ adj E v w ∨ ¬ okV src dst inner w) : Mid E src dst V inner r b v (w + 1) := by
  refine ⟨hm.is, hm.low, hm.done, fun y q hy hq hl => ?_⟩
  rcases Nat.lt_or_ge y w with c | c
  · exact hm.part y q c hq hl
  · obtain rfl : y = w := by omega
    exfalso
    rcases hc with e | e | e | e
    · exact hq.1 e
    · exact (hm.low y hw (y :: q) hq.2.2.2 rfl (by simpa using hl)).1 e
    · exact e hq.2.1
    · exact e hq.2.2.1
def upd (b : Nat → List Nat) (v : Nat) (x : List Nat) : Nat → List Nat := fun u => if u = v then x else b u
theorem Mid.better {r v w : Nat} {b : Nat → List Nat} (hm : Mid E src dst V inner r b v w) (hw : w < V) (h1 : v ≠ dst) (h2 : b w ≠ []) (h3 : adj E v w) (h4 : okV src dst inner w) :
    Mid E src dst V inner r (upd b v (leastL (b v) (v :: b w))) v (w + 1) := by
  have hne : leastL (b v) (v :: b w) ≠ [] := leastL_ne _ _ (.inr (by simp))
  have keep : ∀ q, (b v ≠ [] ∧ lessL q (b v) = false) → upd b v (leastL (b v) (v :: b w)) v ≠ [] ∧ lessL q (upd b v (leastL (b v) (v :: b w)) v) = false := by
    rintro q ⟨a, c⟩
    simp only [upd, if_true]
    exact ⟨hne, lessL_not_trans _ _ _ (leastL_left _ _ a) c⟩
  have keepAll : ∀ u q, (b u ≠ [] ∧ lessL q (b u) = false) → upd b v (leastL (b v) (v :: b w)) u ≠ [] ∧ lessL q (upd b v (leastL (b v) (v :: b w)) u) = false := by
    intro u q hq
    by_cases c : u = v
    · subst c; exact keep q hq
    · simp only [upd, if_neg c]; exact hq
  refine ⟨fun u hu => ?_, fun u hu q a c d => keepAll u q (hm.low u hu q a c d), fun u hu q a c d => keepAll u q (hm.done u hu q a c d), fun y q hy hq hl => ?_⟩
  · by_cases c : u = v
    · subst c
      simp only [upd, if_true] at hu ⊢
      have hcand : IsP E src dst inner (u :: b w) ∧ (u :: b w).head? = some u := by
        obtain ⟨a, d⟩ := hm.is w h2
        cases hb : b w with
        | nil => exact absurd hb h2
        | cons x s =>
          rw [hb] at a d
          obtain rfl : x = w := by simpa using d
          exact ⟨⟨h1, h3, h4, a⟩, rfl⟩
      unfold leastL at hu ⊢
      split
      · exact hcand
      · rename_i hc
        exact hm.is u (fun e => hc (.inl e))
    · simp only [upd, if_neg c] at hu ⊢
      exact hm.is u hu
  · rcases Nat.lt_or_ge y w with c | c
    · exact keep _ (hm.part y q c hq hl)
    · obtain rfl : y = w := by omega
      simp only [upd, if_true]
      refine ⟨hne, lessL_not_trans _ (v :: b y) _ (leastL_right _ _ (by simp)) ?_⟩
      rw [lessL_cons]
      exact (hm.low y hw (y :: q) hq.2.2.2 rfl (by simpa using hl)).2
/-- A shortest list has at most as many vertices as there are. -/
theorem rmin_small (h : Given E src dst V inner inn) {n v : Nat} (hv : v < V) (hr : RMin E src dst inner n v) : n < V := by
  have hex : ∀ m, m ≤ n → ∃ u, u < V ∧ RMin E src dst inner m u := by
    intro m hm
    rcases Nat.lt_or_ge m n with c | c
    · obtain ⟨u, _, hu⟩ := rmin_down hr c
      refine ⟨u, ?_, hu⟩
      cases m with
      | zero => rw [rmin_zero.1 hu]; exact h.hdst
      | succ m =>
        obtain ⟨_, z, ha, _, _⟩ := rmin_succ hu
        exact (h.adj_lt ha).1
    · obtain rfl : m = n := by omega
      exact ⟨v, hv, hr⟩
  have key : ∀ k, k ≤ n + 1 → ∃ l : List Nat, l.length = k ∧ l.Nodup ∧ ∀ x, x ∈ l → x < V ∧ ∃ m, m < k ∧ RMin E src dst inner m x := by
    intro k
    induction k with
    | zero => intro _; exact ⟨[], rfl, List.nodup_nil, fun x hx => by cases hx⟩
    | succ k ih =>
      intro hk
      obtain ⟨l, hl, hn, hx⟩ := ih (by omega)
      obtain ⟨u, hu, hru⟩ := hex k (by omega)
      refine ⟨u :: l, by simp [hl], List.nodup_cons.2 ⟨fun hm => ?_, hn⟩, fun x hm => ?_⟩
      · obtain ⟨_, m, hmk, hrm⟩ := hx u hm
        have := rmin_uniq hru hrm
        omega
      · rcases List.mem_cons.1 hm with e | e
        · subst e; exact ⟨hu, k, by omega, hru⟩
        · obtain ⟨a, m, b, c⟩ := hx x e
          exact ⟨a, m, by omega, c⟩
  obtain ⟨l, hl, hn, hx⟩ := key (n + 1) (Nat.le_refl _)
  have := pigeon V l hn fun x hm => (hx x hm).1
  omega
theorem Bst.best (h : Given E src dst V inner inn) {b : Nat → List Nat} (hb : Bst E src dst V inner V b) : (b src = [] ∧ ∀ p, IsP E src dst inner p → p.head? ≠ some src) ∨ Best E src dst inner (b src) := by
  have short : ∀ q, IsP E src dst inner q → q.head? = some src → b src ≠ [] ∧ lessL q (b src) = false := by
    intro q hq hh
    match q, hq, hh with
    | x :: r, hq, hh =>
      obtain rfl : x = src := by simpa using hh
      obtain ⟨m, hm, hr⟩ := rmin_of_reach (E := E) (src := x) (dst := dst) (inner := inner) (v := x) ⟨r, hq, rfl⟩
      have hsm := rmin_small h h.hsrc hr
      obtain ⟨r', hq', hl'⟩ := hr.1
      obtain ⟨a, c⟩ := hb.low x h.hsrc (x :: r') hq' rfl (by simp; omega)
      refine ⟨a, ?_⟩
      rcases Nat.lt_or_ge V r.length with d | d
      · have h5 : (b x).length ≤ r'.length + 1 := by
          unfold lessL at c
          split at c
          · rename_i e; simp at e; omega
          · simp at c; omega
        unfold lessL
        rw [if_neg (by simp; omega)]
        simp; omega
      · exact (hb.low x h.hsrc (x :: r) hq rfl (by simp; omega)).2
  by_cases h0 : b src = []
  · exact .inl ⟨h0, fun p hp hh => (short p hp hh).1 h0⟩
  · obtain ⟨a, c⟩ := hb.is src h0
    exact .inr ⟨a, c, fun q hq hh => (short q hq hh).2⟩
end
end Go.Proofs.YtbgbjodehbcgiaaDoor

/- The plain law of paths, third part: what Path answers; the valid graph's facts. No program in sight. -/
namespace Go.Proofs.YtbgbjodehbcgiaaDoor

/-- What Path answers: a list of vertices and a number. -/
def PathIs (V : Int) (E : List (BitVec 32)) (s t : Int) (inner : BitVec 32) (Z : List Nat) (code : Int) : Prop :=
  (validB V E = false ∧ code = 140 ∧ Z = []) ∨
  (validB V E = true ∧ (s < 0 ∨ t < 0 ∨ V ≤ s ∨ V ≤ t) ∧ code = 141 ∧ Z = []) ∨
  (validB V E = true ∧ 0 ≤ s ∧ 0 ≤ t ∧ s < V ∧ t < V ∧ s = t ∧ code = 0 ∧ Z = [s.toNat]) ∨
  (validB V E = true ∧ 0 ≤ s ∧ 0 ≤ t ∧ s < V ∧ t < V ∧ s ≠ t ∧ code = 0 ∧ ((Z = [] ∧ ∀ p, IsP E s.toNat t.toNat inner p → p.head? ≠ some s.toNat) ∨ Best E s.toNat t.toNat inner Z))
theorem pathIs_uniq {V : Int} {E : List (BitVec 32)} {s t : Int} {inner : BitVec 32} {Z Y : List Nat} {c d : Int} (h : PathIs V E s t inner Z c) (h' : PathIs V E s t inner Y d) : Z = Y ∧ c = d := by
  have key : ∀ {Z Y : List Nat}, ((Z = [] ∧ ∀ p, IsP E s.toNat t.toNat inner p → p.head? ≠ some s.toNat) ∨ Best E s.toNat t.toNat inner Z) → ((Y = [] ∧ ∀ p, IsP E s.toNat t.toNat inner p → p.head? ≠ some s.toNat) ∨ Best E s.toNat t.toNat inner Y) → Z = Y := by
    intro Z Y a7 b7
    rcases a7 with ⟨rfl, a7⟩ | a7 <;> rcases b7 with ⟨rfl, b7⟩ | b7
    · rfl
    · exact absurd b7.2.1 (a7 _ b7.1)
    · exact absurd a7.2.1 (b7 _ a7.1)
    · exact best_uniq a7 b7
  rcases h with ⟨a1, a8, a9⟩ | ⟨a1, a2, a8, a9⟩ | ⟨a1, a2, a3, a4, a5, a6, a8, a9⟩ | ⟨a1, a2, a3, a4, a5, a6, a8, a9⟩ <;>
  rcases h' with ⟨b1, b8, b9⟩ | ⟨b1, b2, b8, b9⟩ | ⟨b1, b2, b3, b4, b5, b6, b8, b9⟩ | ⟨b1, b2, b3, b4, b5, b6, b8, b9⟩ <;>
  first
    | (rw [a1] at b1; cases b1; done)
    | omega
    | exact ⟨a9.trans b9.symm, a8.trans b8.symm⟩
    | exact ⟨key a9 b9, a8.trans b8.symm⟩

/-- The vertices that may be passed, as the program cuts them. -/
def inn_ (V : Int) (s t : Nat) (inner : BitVec 32) : BitVec 32 := inner &&& (allOf V &&& ~~~(1#32 <<< s ||| 1#32 <<< t))
theorem edge_lt {V : Int} {E : List (BitVec 32)} (hv : validB V E = true) : ∀ e, e ∈ E → ∀ u, e.getLsbD u = true → u < V.toNat := by
  obtain ⟨h0, h1, _, h3⟩ := validB_of hv
  intro e he u hu
  have h4 : outB V e = false := by
    have := List.any_eq_false.1 h3 e he
    simpa using this
  rcases Nat.lt_or_ge u V.toNat with c | c
  · exact c
  · have := outB_true_of h0 h1 (k := u) (by omega) (by rw [inB_nat]; exact hu)
    rw [h4] at this; cases this
theorem given_of {V : Int} {E : List (BitVec 32)} {s t : Nat} {inner : BitVec 32} (hv : validB V E = true) (hs : (s : Int) < V) (ht : (t : Int) < V) (hne : s ≠ t) : Given E s t V.toNat inner (inn_ V s t inner) := by
  obtain ⟨h0, h1, _, _⟩ := validB_of hv
  refine ⟨edge_lt hv, by omega, by omega, hne, by omega, fun u => ?_⟩
  unfold inn_
  rw [BitVec.getLsbD_and, BitVec.getLsbD_and, getLsbD_allOf V (by omega), BitVec.getLsbD_not, BitVec.getLsbD_or, getLsbD_one_shl _ _ (by omega), getLsbD_one_shl _ _ (by omega)]
  simp only [Bool.and_eq_true, decide_eq_true_eq, Bool.not_eq_true', Bool.or_eq_false_iff, decide_eq_false_iff_not]
  constructor
  · rintro ⟨a, b, _, c, d⟩; exact ⟨a, c, d, b⟩
  · rintro ⟨a, c, d, b⟩; exact ⟨a, b, by omega, c, d⟩
/-- What the search has found out. -/
def Found (E : List (BitVec 32)) (s t : Nat) (inner inn : BitVec 32) (f : Nat → Nat) : Prop :=
  (f s = 0 ∧ ∀ p, IsP E s t inner p → p.head? ≠ some s) ∨ (f s ≠ 0 ∧ ∃ n L S, Inv E s t inner inn n f L S)
theorem Found.no {E : List (BitVec 32)} {s t : Nat} {inner inn : BitVec 32} {f : Nat → Nat} (h : Found E s t inner inn f) (h0 : f s = 0) : ∀ p, IsP E s t inner p → p.head? ≠ some s := by
  rcases h with h | h
  · exact h.2
  · exact absurd h0 h.1
theorem Found.yes {E : List (BitVec 32)} {s t : Nat} {inner inn : BitVec 32} {f : Nat → Nat} (h : Found E s t inner inn f) (h0 : f s ≠ 0) : ∃ n L S, Inv E s t inner inn n f L S := by
  rcases h with h | h
  · exact absurd h.1 h0
  · exact h.2
theorem bitsOf_len (s : BitVec 32) : (bitsOf s).length ≤ 32 := by
  unfold bitsOf
  have := List.length_filter_le (fun v => s.getLsbD v) (List.range 32)
  rw [List.length_range] at this
  exact this
theorem roundsLeft_le (L S : BitVec 32) : roundsLeft L S ≤ 33 := by
  unfold roundsLeft
  have := bitsOf_len (~~~S)
  split <;> omega
/-- The numbers of steps, as the array holds them. -/
def fl (f : Nat → Nat) : List Int := (List.range 30).map fun v => (f v : Int)
theorem fl_length (f : Nat → Nat) : (fl f).length = 30 := by simp [fl]
theorem fl_at (f : Nat → Nat) (v : Nat) (h : v < 30) : (is (fl f))[v]? = some (.int .i64 (f v)) := by simp [is, fl, h]
theorem fl_set (f : Nat → Nat) (v x : Nat) (h : v < 30) : (is (fl f)).set v (.int .i64 x) = is (fl fun u => if u = v then x else f u) := by
  apply List.ext_getElem?
  intro i
  rw [List.getElem?_set]
  by_cases c : v = i
  · subst c
    rw [if_pos rfl, if_pos (by simp [is, fl, h]), fl_at _ _ h]; simp
  · rw [if_neg c]
    by_cases d : i < 30
    · rw [fl_at _ _ d, fl_at _ _ d, if_neg (Ne.symm c)]
    · simp [is, fl, d]
theorem fl_congr {f g : Nat → Nat} (h : ∀ v, v < 30 → f v = g v) : fl f = fl g := by
  unfold fl
  apply List.map_congr_left
  intro v hv
  rw [h v (List.mem_range.1 hv)]
end Go.Proofs.YtbgbjodehbcgiaaDoor

/- The contract of hyper.Path. -/
namespace Go.Proofs.YtbgbjodehbcgiaaDoor
open Go.RowKit

attribute [local go_sem ↓] uz_and uz_or uz_andNot uz_and_one uz_shr uz_shl_one uz_shl uz_sub uz_sub_one uz_add uz_beq_zero uz_bne_zero uz_beq uz_bne uz_beq_one

theorem path_invalid (V : Int) (s t : Int) (inner : BitVec 32) (A : Option Addr) (E : List (BitVec 32)) (c : Nat) (w : World) (hl : E.length ≤ 35184372087808) (hE : Rd w w.heap.size A (us E)) (hv : validB V E = false) :
    Calls Tryd.prog 48 #[.agg #[.int .i64 V, .slice A E.length c], .int .i64 s, .int .i64 t, .int .u32 (uz inner)] w fun e w' => e = .returned (.tuple #[.slice none 0 0, .int .i64 140]) ∧ Below w.heap.size w w' := by
  go_enter Tryd.func48, Tryd.ntmps48
  go_wp2_with fail
  have hb0 := below_alloc w (.cells #[.int .i64 V, .slice A E.length c] 28)
  refine (valid_any V A E c _ hl (hE.later hb0)).mono ?_
  rintro e w1 ⟨rfl, hb⟩
  rw [hv]
  go_wp2
  go_ret2
  exact ⟨rfl, bthen hb0 hb⟩
set_option maxRecDepth 100000 in
theorem path_out (V : Int) (s t : Int) (inner : BitVec 32) (A : Option Addr) (E : List (BitVec 32)) (c : Nat) (w : World) (hl : E.length ≤ 35184372087808) (hE : Rd w w.heap.size A (us E)) (hv : validB V E = true) (ho : s < 0 ∨ t < 0 ∨ V ≤ s ∨ V ≤ t) :
    Calls Tryd.prog 48 #[.agg #[.int .i64 V, .slice A E.length c], .int .i64 s, .int .i64 t, .int .u32 (uz inner)] w fun e w' => e = .returned (.tuple #[.slice none 0 0, .int .i64 141]) ∧ Below w.heap.size w w' := by
  go_enter Tryd.func48, Tryd.ntmps48
  go_wp2_with fail
  have hb0 := below_alloc w (.cells #[.int .i64 V, .slice A E.length c] 28)
  refine (valid_any V A E c _ hl (hE.later hb0)).mono ?_
  rintro e w1 ⟨rfl, hb⟩
  rw [hv]
  obtain ⟨hc, hf⟩ := bcell hb
  go_upto_region 3 with fail
  go_cut [26] (fun x wc => x = .bool true ∧ w1 = wc)
  case first =>
    go_wp2_with fail
    all_goals
      go_meet
      refine ⟨congrArg Value.bool ?_, rfl⟩
      first | rfl | (simp; done) | (simp; omega)
  case rest =>
    obtain ⟨rfl, rfl⟩ := hcut
    go_wp2
    go_ret2
    exact ⟨rfl, bthen hb0 hb⟩
set_option maxRecDepth 100000 in
theorem path_same (V : Int) (s : Int) (inner : BitVec 32) (A : Option Addr) (E : List (BitVec 32)) (c : Nat) (w : World) (hl : E.length ≤ 35184372087808) (hE : Rd w w.heap.size A (us E)) (hv : validB V E = true) (h0 : 0 ≤ s) (h1 : s < V) :
    Calls Tryd.prog 48 #[.agg #[.int .i64 V, .slice A E.length c], .int .i64 s, .int .i64 s, .int .u32 (uz inner)] w fun e w' => ∃ g, e = .returned (.tuple #[.slice (some ⟨g, 0, none⟩) 1 1, .int .i64 0]) ∧ w.heap.size ≤ g ∧ Row w' g 3 (is [s]) ∧ Below w.heap.size w w' := by
  go_enter Tryd.func48, Tryd.ntmps48
  go_wp2_with fail
  have hb0 := below_alloc w (.cells #[.int .i64 V, .slice A E.length c] 28)
  refine (valid_any V A E c _ hl (hE.later hb0)).mono ?_
  rintro e w1 ⟨rfl, hb⟩
  rw [hv]
  obtain ⟨hc, hf⟩ := bcell hb
  have hb1 := bthen hb0 hb
  go_upto_region 3 with fail
  go_cut [26] (fun x wc => x = .bool false ∧ w1 = wc)
  case first =>
    go_wp2_with fail
    all_goals
      go_meet
      refine ⟨congrArg Value.bool ?_, rfl⟩
      first | rfl | (simp; done) | (simp; omega)
  case rest =>
    obtain ⟨rfl, rfl⟩ := hcut
    go_wp2
    go_ret2
    exact ⟨_, rfl, hb1.size, Row.new _ _ _, hb1.alloc hb1.size _⟩
/-- In a world of the class: the near vertices. -/
theorem near_class {w w1 : World} {V v : Int} {A : Option Addr} {E : List (BitVec 32)} {c : Nat} (h0 : 0 ≤ v) (hl : E.length ≤ 35184372087808) (hE : Rd w w.heap.size A (us E)) (hb : Below w.heap.size w w1) (d : Nat) (os : Array Obj) :
    Calls Tryd.prog 94 #[.agg #[.int .i64 V, .slice A E.length c], .int .i64 v] (Sort.grow (redrawn w1 d) os) fun e w'' => e = .returned (.int .u32 (uz (nearS E v))) ∧ ∃ p : Regrown, w'' = Sort.grow (redrawn w1 p.d) p.os :=
  Calls.regrown_of (near_any V v A E c _ h0 hl (hE.later (bthen hb (below_regrown w1 d os))))
theorem tz_class {w w1 : World} (x : BitVec 32) (hT : Tab w) (hb : Below w.heap.size w w1) (d : Nat) (os : Array Obj) :
    Calls Tryd.prog 95 #[.int .u32 (uz x)] (Sort.grow (redrawn w1 d) os) fun e w'' => e = .returned (.int .i64 (ctz x)) ∧ ∃ p : Regrown, w'' = Sort.grow (redrawn w1 p.d) p.os :=
  Calls.regrown_of ((tz_any x _ (hT.later (bthen hb (below_regrown w1 d os)))).mono fun e w' ⟨he, hw⟩ => ⟨he, by rw [← hw]; exact Below.refl _ _⟩)
theorem orAll_map_snoc (E : List (BitVec 32)) (pre : List Nat) (x : Nat) : orAll ((pre ++ [x]).map fun (v : Nat) => nearS E (v : Int)) = orAll (pre.map fun (v : Nat) => nearS E (v : Int)) ||| nearS E (x : Int) := by
  rw [List.map_append, List.map_singleton, orAll_snoc]
theorem below_skip {w w1 : World} {g : Nat} (hb : Below w.heap.size w w1) (hg : g < w.heap.size) : g < w1.heap.size := Nat.lt_of_lt_of_le hg hb.size

set_option maxRecDepth 100000 in
set_option maxHeartbeats 4000000 in
theorem path_main (V : Int) (s t : Nat) (inner : BitVec 32) (A : Option Addr) (E : List (BitVec 32)) (c : Nat) (w : World) (hl : E.length ≤ 35184372087808) (hE : Rd w w.heap.size A (us E)) (hT : Tab w) (hv : validB V E = true)
   (hs1 : (s : Int) < V) (ht1 : (t : Int) < V) (hne : ((s : Int) == (t : Int)) = false) :
    Calls Tryd.prog 48 #[.agg #[.int .i64 V, .slice A E.length c], .int .i64 s, .int .i64 t, .int .u32 (uz inner)] w fun e w' =>
      ∃ (v : Value) (Z : List Nat), e = .returned (.tuple #[v, .int .i64 0]) ∧ w'.ownsRow w.heap.size 3 1 v Z.length (is (Z.map Int.ofNat)) ∧ Hid ((Z = [] ∧ ∀ p, IsP E s t inner p → p.head? ≠ some s) ∨ Best E s t inner Z) ∧ Below w.heap.size w w' := by
  have hal : ∀ wr : World, Rd wr wr.heap.size A (us E) → Calls Tryd.prog 93 #[.agg #[.int .i64 V, .slice A E.length c]] wr fun e w' => e = .returned (.int .u32 (uz (allOf V))) ∧ Below wr.heap.size wr w' := fun wr _ => all_any V A E.length c wr (by omega)
  have HAL := Lib.hid hal
  clear hal
  have hne' : s ≠ t := fun e => by subst e; simp at hne
  have HG := Lib.hid (given_of (inner := inner) hv hs1 ht1 hne')
  have hV30 : V ≤ 30 := (validB_of hv).2.1
  clear hne'
  go_enter Tryd.func48, Tryd.ntmps48
  go_wp2_with fail
  have hb0 := below_alloc w (.cells #[.int .i64 V, .slice A E.length c] 28)
  refine (valid_any V A E c _ hl (hE.later hb0)).mono ?_
  rintro e w1 ⟨rfl, hb⟩
  rw [hv]
  obtain ⟨hc, hf⟩ := bcell hb
  have hb1 := bthen hb0 hb
  have hg0 : w1.cell? ⟨w.heap.size, 0, none⟩ = some (.int .i64 V) := by rw [hc _ _ (by simp)]; simp [World.cell?_alloc_new]
  have hg1 : w1.cell? ⟨w.heap.size, 1, none⟩ = some (.slice A E.length c) := by rw [hc _ _ (by simp)]; simp [World.cell?_alloc_new]
  have hE1 := hE.later hb1
  clear hc hf hb hb0
  go_upto_region 3 with fail
  go_cut [26] (fun x wc => x = .bool false ∧ w1 = wc)
  case first =>
    go_wp2_with fail
    all_goals
      go_meet
      refine ⟨congrArg Value.bool ?_, rfl⟩
      first | rfl | (simp; done) | (simp; omega)
  case rest =>
    obtain ⟨rfl, rfl⟩ := hcut
    go_upto_region 7 with fail
    go_cut [3] (fun x wc => x = .int .u32 (uz (inn_ V s t inner)) ∧ Below w1.heap.size w1 wc)
    case first =>
      have k0 := cell_regrown hg0
      have k1 := cell_regrown hg1
      have hcall : ∀ d os, Calls Tryd.prog 93 #[.agg #[.int .i64 V, .slice A E.length c]] (Sort.grow (redrawn w1 d) os) fun e w'' => e = .returned (.int .u32 (uz (allOf V))) ∧ ∃ p : Regrown, w'' = Sort.grow (redrawn w1 p.d) p.os := fun d os => Calls.regrown_of (HAL.out _ (hE1.later (below_regrown w1 d os)))
      refine wp_region_quiet_below (by kernel_rfl) (by kernel_rfl) ?_
      repeat (quiet_step (first | exact hcall _ _))
      refine wpQuiet_nil ?_
      intro w2 hw2
      have hb2 : Below w1.heap.size w1 w2 := by obtain ⟨p, rfl⟩ := hw2; exact below_regrown _ _ _
      clear hw2
      go_wp2_with fail
      go_meet
      exact ⟨rfl, hb2⟩
    case rest =>
      obtain ⟨rfl, hb2⟩ := hcut
      obtain ⟨wb, hwb⟩ : ∃ wb : World, wb = wc := ⟨_, rfl⟩
      subst hwb
      have hbw := bthen hb1 hb2
      have hg0' : wb.cell? ⟨w.heap.size, 0, none⟩ = some (.int .i64 V) := (Tab_cell hb2 hg0)
      have hg1' : wb.cell? ⟨w.heap.size, 1, none⟩ = some (.slice A E.length c) := (Tab_cell hb2 hg1)
      have hgl : w.heap.size < wb.heap.size := World.block_lt_of_cell? _ _ hg0'
      clear hg0 hg1 hE1 hb1 hb2
      obtain ⟨inn, hinn⟩ : ∃ x, x = inn_ V s t inner := ⟨_, rfl⟩
      rw [← hinn] at HG ⊢
      clear hinn
      have hEb := hE.later hbw
      have hTb := hT.later hbw
      go_wp2_with fail
      have hR : Row (wb.alloc (.cells #[.int .i64 0, .int .i64 0, .int .i64 0, .int .i64 0, .int .i64 0, .int .i64 0, .int .i64 0, .int .i64 0, .int .i64 0, .int .i64 0, .int .i64 0, .int .i64 0, .int .i64 0, .int .i64 0, .int .i64 0, .int .i64 0, .int .i64 0, .int .i64 0, .int .i64 0, .int .i64 0, .int .i64 0, .int .i64 0, .int .i64 0, .int .i64 0, .int .i64 0, .int .i64 0, .int .i64 0, .int .i64 0, .int .i64 0, .int .i64 0] 147)) wb.heap.size 147 (is (fl fun _ => 0)) := heap_alloc_new wb _
      have hb3 := below_alloc wb (.cells #[.int .i64 0, .int .i64 0, .int .i64 0, .int .i64 0, .int .i64 0, .int .i64 0, .int .i64 0, .int .i64 0, .int .i64 0, .int .i64 0, .int .i64 0, .int .i64 0, .int .i64 0, .int .i64 0, .int .i64 0, .int .i64 0, .int .i64 0, .int .i64 0, .int .i64 0, .int .i64 0, .int .i64 0, .int .i64 0, .int .i64 0, .int .i64 0, .int .i64 0, .int .i64 0, .int .i64 0, .int .i64 0, .int .i64 0, .int .i64 0] 147)
      generalize wb.alloc _ = w3 at hR hb3 ⊢
      go_quiet (fail)
      go_upto_block 1 with fail
      go_cut [11, 12, 13] (fun _ _ _ we => ∃ f, Row we wb.heap.size 147 (is (fl f)) ∧ Below wb.heap.size wb we ∧ Hid (Found E s t inner inn f))
      case first =>
        go_wp2_with fail
        go_loopg [11, 12, 13] (roundsLeft (1#32 <<< t) (1#32 <<< t)) (fun gk l sn n wr => ∃ (L S : BitVec 32) (m : Nat) (f : Nat → Nat), l = .int .u32 (uz L) ∧ sn = .int .u32 (uz S) ∧ n = .int .i64 m ∧ m + gk ≤ 40 ∧ Hid (gk = roundsLeft L S) ∧ Hid (Inv E s t inner inn m f L S) ∧ Row wr wb.heap.size 147 (is (fl f)) ∧ Below wb.heap.size wb wr)
        case atStart => exact ⟨_, _, 1, fun _ => 0, rfl, rfl, rfl, by have := roundsLeft_le (1#32 <<< t) (1#32 <<< t); omega, rfl, Inv.start HG.out, hR, below_drewN hb3 _⟩
        case round =>
          obtain ⟨L, S, m, f, rfl, rfl, rfl, hm, hgk, hI, hRr, hbr⟩ := hrel
          have hfs : wr.cell? ⟨wb.heap.size, s, none⟩ = some (.int .i64 (f s)) := by rw [hRr.cell, fl_at _ _ (by omega)]
          by_cases hL : L = 0#32
          · have hL' : (L != 0#32) = false := by simpa using hL
            have HL := Lib.hid hL
            clear hL
            go_wp2_with fail
            go_meet
            refine ⟨f, hRr, hbr, ?_⟩
            by_cases h0 : f s = 0
            · exact .inl ⟨h0, Inv.none HG.out (by have := hI.out; rwa [HL.out] at this) h0⟩
            · exact .inr ⟨h0, m, L, S, hI.out⟩
          · have hL' : (L != 0#32) = true := by simpa using hL
            have HL := Lib.hid hL
            clear hL
            by_cases h0 : f s = 0
            · have h0' : ((f s : Int) == 0) = true := by simp [h0]
              have H0 := Lib.hid h0
              clear h0
              go_wp2_with fail
              go_loopg [14, 15] (bitsOf L).length (fun gi nx sv wi => ∃ (N X : BitVec 32) (pre : List Nat), nx = .int .u32 (uz N) ∧ sv = .int .u32 (uz X) ∧ Hid (bitsOf L = pre ++ bitsOf X ∧ N = orAll (pre.map fun (v : Nat) => nearS E (v : Int)) ∧ gi = (bitsOf X).length) ∧ Row wi wb.heap.size 147 (is (fl f)) ∧ Below wb.heap.size wb wi)
              case atStart => exact ⟨0#32, L, [], rfl, rfl, ⟨rfl, rfl, rfl⟩, hRr, hbr⟩
              case round =>
                obtain ⟨N, X, pre, rfl, rfl, hX, hRi, hbi⟩ := hrel
                by_cases hx0 : X = 0#32
                · have hx' : (X != 0#32) = false := by simpa using hx0
                  have HN : Hid (N = nearAll E L) := by
                    obtain ⟨e1, e2, _⟩ := hX.out
                    rw [hx0, bitsOf_zero, List.append_nil] at e1
                    show N = _
                    rw [e2, ← e1]; rfl
                  clear hx0 hX hfs hL' h0'
                  go_wp2_with fail
                  generalize hNX : N &&& ((inn ||| 1#32 <<< s) &&& ~~~S) = NX
                  have HNX : Hid (NX = nextL E s inn L S) := by show _ = _; rw [← hNX, HN.out]; rfl
                  clear hNX
                  have hlt : ∀ v, NX.getLsbD v = true → v < 30 := by
                    intro v hv
                    rw [HNX.out] at hv
                    unfold nextL at hv
                    rw [BitVec.getLsbD_and, BitVec.getLsbD_and, BitVec.getLsbD_or, getLsbD_one_shl _ _ (by omega)] at hv
                    simp only [Bool.and_eq_true, Bool.or_eq_true, decide_eq_true_eq] at hv
                    rcases hv.2.1 with a | a
                    · have := ((HG.out).inn v).1 a
                      omega
                    · omega
                  have HLT := Lib.hid hlt
                  clear hlt
                  go_loopg [16] (bitsOf NX).length (fun gi sv wi => ∃ (X : BitVec 32) (pre : List Nat), sv = .int .u32 (uz X) ∧ Hid (bitsOf NX = pre ++ bitsOf X ∧ gi = (bitsOf X).length) ∧ Row wi wb.heap.size 147 (is (fl fun v => if v ∈ pre then m else f v)) ∧ Below wb.heap.size wb wi)
                  case atStart => exact ⟨NX, [], rfl, ⟨rfl, rfl⟩, by simpa using hRi, hbi⟩
                  case round =>
                    clear hRi hbi
                    obtain ⟨X, pre, rfl, hX, hRi, hbi⟩ := hrel
                    by_cases hx0 : X = 0#32
                    · have hx' : (X != 0#32) = false := by simpa using hx0
                      have HE : Hid (bitsOf NX = pre) := by
                        obtain ⟨e1, _⟩ := hX.out
                        rwa [hx0, bitsOf_zero, List.append_nil] at e1
                      clear hx0 hX
                      have hlt2 := roundsLeft_step E s inn L S HL.out
                      rw [← HNX.out] at hlt2
                      rw [← hgk.out] at hlt2
                      have HLT2 := Lib.hid hlt2
                      have hm40 : m ≤ 40 := by omega
                      clear hlt2
                      go_wp2_with fail
                      go_roundg (roundsLeft (NX &&& ~~~(1#32 <<< s)) (S ||| NX))
                      case measure => exact HLT2.out
                      case rel =>
                        refine ⟨NX &&& ~~~(1#32 <<< s), S ||| NX, m + 1, fun v => if NX.getLsbD v = true then m else f v, rfl, rfl, by go_num, by have := HLT2.out; omega, rfl, ?_, ?_, hbi⟩
                        · have := hI.out.step HG.out
                          rw [← HNX.out] at this
                          exact this
                        · have e : fl (fun v => if v ∈ pre then m else f v) = fl (fun v => if NX.getLsbD v = true then m else f v) := fl_congr fun v _ => by
                            rw [← HE.out]
                            simp only [mem_bitsOf]
                          rw [← e]; exact hRi
                    · have hx' : (X != 0#32) = true := by simpa using hx0
                      have HX0 := Lib.hid hx0
                      clear hx0
                      have hc30 : ctz X < 30 := by
                        apply HLT.out
                        rw [← mem_bitsOf, hX.out.1, bitsOf_cons X HX0.out]
                        simp
                      have hc1 : (0 : Int) ≤ (ctz X : Int) := by omega
                      have hc2 : (ctz X : Int) < 30 := by omega
                      have hcc : ∃ y : Int, wr.cell? ⟨wb.heap.size, ctz X, none⟩ = some (.int .i64 y) := ⟨_, (hRi.cell _).trans (fl_at _ _ hc30)⟩
                      obtain ⟨y, hcc⟩ := hcc
                      have hcf := hRi.frozen (ctz X)
                      go_wp2_with (go_at_call 95; refine (tz_any X _ (hTb.later hbi)).mono ?_; rintro e w' ⟨rfl, rfl⟩)
                      go_roundg ((bitsOf (X &&& (X - 1#32))).length)
                      case measure => rw [hX.out.2]; exact bitsOf_len_lt X HX0.out
                      case rel =>
                        refine ⟨X &&& (X - 1#32), pre ++ [ctz X], rfl, ⟨?_, rfl⟩, ?_, hbi.setCell (Nat.le_refl _) _⟩
                        · rw [hX.out.1, bitsOf_cons X HX0.out]; simp
                        · have e := fl_set (fun v => if v ∈ pre then m else f v) (ctz X) m hc30
                          have e2 : fl (fun v => if v ∈ pre ++ [ctz X] then m else f v) = fl (fun u => if u = ctz X then m else if u ∈ pre then m else f u) := fl_congr fun v _ => by
                            by_cases a : v = ctz X <;> by_cases b : v ∈ pre <;> simp [a, b]
                          rw [e2, ← e]; exact hRi.set_ _ _
                · have hx' : (X != 0#32) = true := by simpa using hx0
                  have HX0 := Lib.hid hx0
                  clear hx0 hfs hL' h0'
                  go_wp2_with fail
                  have k0 := cell_regrown (Tab_cell hbi hg0')
                  have k1 := cell_regrown (Tab_cell hbi hg1')
                  refine wp_region_quiet_below (by kernel_rfl) (by kernel_rfl) ?_
                  repeat (quiet_step (first | exact tz_class X hTb hbi _ _ | exact near_class (v := ((ctz X : Nat) : Int)) (by omega) hl hEb hbi _ _))
                  refine wpQuiet_nil ?_
                  intro w4 hw4
                  have hb4 : Below wr.heap.size wr w4 := by obtain ⟨p, rfl⟩ := hw4; exact below_regrown _ _ _
                  clear hw4 k0 k1
                  go_wp2_with fail
                  go_roundg ((bitsOf (X &&& (X - 1#32))).length)
                  case measure => rw [hX.out.2.2]; exact bitsOf_len_lt X HX0.out
                  case rel =>
                    refine ⟨N ||| nearS E (ctz X : Nat), X &&& (X - 1#32), pre ++ [ctz X], rfl, rfl, ⟨?_, ?_, rfl⟩, hRi.later hb4, bthen hbi hb4⟩
                    · rw [hX.out.1, bitsOf_cons X HX0.out]; simp
                    · rw [orAll_map_snoc, ← hX.out.2.1]
            · have h0' : ((f s : Int) == 0) = false := by simp; omega
              have H0 := Lib.hid h0
              clear h0
              go_wp2_with fail
              go_meet
              exact ⟨f, hRr, hbr, .inr ⟨H0.out, m, L, S, hI.out⟩⟩
      case rest =>
        obtain ⟨f, hRe, hbe, hF⟩ := hcut
        obtain ⟨we, hwe⟩ : ∃ we : World, we = wc := ⟨_, rfl⟩
        subst hwe
        have hfs : we.cell? ⟨wb.heap.size, s, none⟩ = some (.int .i64 (f s)) := by rw [hRe.cell, fl_at _ _ (by omega)]
        by_cases h0 : f s = 0
        · have h0' : ((f s : Int) == 0) = true := by simp [h0]
          have H0 := Lib.hid h0
          clear h0
          go_wp2_with fail
          go_ret2
          exact ⟨.slice none 0 0, [], rfl, World.ownsRow_nil _ _ _ _, .inl ⟨rfl, hF.out.no H0.out⟩, bthen hbw hbe⟩
        · have h0' : ((f s : Int) == 0) = false := by simp; omega
          have H0 := Lib.hid h0
          clear h0
          go_wp2_with fail
          obtain ⟨n, L, S, hI⟩ := hF.out.yes H0.out
          have HI := Lib.hid hI
          clear hI hF
          have hown0 : (we.alloc (.cells #[.int .i64 (s : Int)] 3)).ownsRow (wb.heap.size + 1) 3 1 (.slice (some ⟨we.heap.size, 0, none⟩) 1 1) 1 (is [(s : Int)]) :=
            Row.own (Row.new we 3 (is [(s : Int)])) hRe.lt (by simp [is, maxLen])
          have hbx : Below (wb.heap.size + 1) we (we.alloc (.cells #[.int .i64 (s : Int)] 3)) := (Below.refl _ _).alloc hRe.lt _
          have hlt1 : we.heap.size < (we.alloc (.cells #[.int .i64 (s : Int)] 3)).heap.size := by simp
          generalize we.alloc (.cells #[.int .i64 (s : Int)] 3) = wd at hown0 hbx hlt1 ⊢
          have hfs30 : f s < 30 := by
            have h1 := HI.out.a s H0.out
            have h2 := rmin_small HG.out HG.out.hsrc h1.2
            have := HG.out.small
            omega
          obtain ⟨full, hfull⟩ : ∃ l, l = gr E t inn f (f s) s := ⟨_, rfl⟩
          have hfl : full.length = f s + 1 := by
            have h1 := HI.out.a s H0.out
            rw [hfull]
            exact (gr_best HG.out HI.out (f s) (by have := H0.out; omega) (by omega) s h1.2).2.2.1
          have HF := Lib.hid hfull
          clear hfull hfs h0'
          go_loopg [17, 18] (f s) (fun gi pv vv wr => ∃ (v : Nat) (pre : List Nat), vv = .int .i64 v ∧ v < 30 ∧ pre.length ≤ 40 ∧ wr.ownsRow (wb.heap.size + 1) 3 1 pv (pre.length + 1) (is ((pre ++ [v]).map Int.ofNat)) ∧
            Hid (gi = f v ∧ 1 ≤ f v ∧ RMin E s t inner (f v) v ∧ pre ++ gr E t inn f (f v) v = full) ∧ Below (wb.heap.size + 1) we wr ∧ wb.heap.size + 1 ≤ wr.heap.size)
          case atStart => exact ⟨s, [], rfl, by omega, by simp, hown0, ⟨rfl, by have := H0.out; omega, (HI.out.a s H0.out).2, by rw [HF.out]; rfl⟩, hbx, by have := hRe.lt; omega⟩
          case round =>
            obtain ⟨v, pre, rfl, hv30, hpl, hown, hP, hbr, hsz⟩ := hrel
            have hRr : Row wr wb.heap.size 147 (is (fl f)) := hRe.below hbr (by omega)
            have hfv : wr.cell? ⟨wb.heap.size, v, none⟩ = some (.int .i64 (f v)) := by rw [hRr.cell, fl_at _ _ hv30]
            have hbr' : Below wb.heap.size we wr := hbr.mono (by omega)
            by_cases h1 : f v = 1
            · rw [h1] at hfv
              have HF2 : Hid (pre ++ [v, t] = full) := by
                have := hP.out.2.2.2
                rw [h1] at this
                exact this
              clear hP h1
              go_wp2_with (at_builtin; refine app_int rfl (.tmp 144) (.tmp 146) rfl (wb.heap.size + 1) _ _ ((pre ++ [v]).map Int.ofNat) t rfl rfl hown (by omega) hsz ?_; intro v2 w2 hown2 hb2)
              go_ret2
              refine ⟨v2, full, rfl, ?_, .inr ?_, bthen hbw (hbe.trans (hbr'.trans (hb2.mono (by omega))))⟩
              · have e : full.map Int.ofNat = (pre ++ [v]).map Int.ofNat ++ [(t : Int)] := by rw [← HF2.out]; simp
                have e2 : full.length = pre.length + 1 + 1 := by rw [← HF2.out]; simp
                rw [e, e2]
                exact own_less hown2 (by have := hbw.size; omega)
              · rw [HF.out]
                exact gr_is_best HG.out HI.out H0.out
            · obtain ⟨d, hd⟩ : ∃ d, f v = d + 2 := ⟨f v - 2, by have := hP.out.2.1; omega⟩
              rw [hd] at hfv
              have hpk := pick_spec HG.out HI.out (d := d + 1) (v := v) (by omega) (by
                have := HI.out.a v (by omega)
                omega) (by have := hP.out.2.2.1; rwa [hd] at this)
              obtain ⟨x, hx1, hx2, hx3, hx4, hx5, hx6, _⟩ := hpk
              have hx30 : x < 30 := by
                have := (HG.out.inn x).1 hx4
                have := HG.out.small
                omega
              have HX1 := Lib.hid hx1
              have HX2 := Lib.hid hx2
              have HX5 := Lib.hid hx5
              have HX6 := Lib.hid hx6
              have hd30 : d + 2 ≤ 30 := by
                have h5 := hP.out.2.2.2
                have h6 := congrArg List.length h5
                rw [List.length_append, (gr_best HG.out HI.out (f v) (by omega) (by have := HI.out.a v (by omega); omega) v hP.out.2.2.1).2.2.1] at h6
                omega
              have HD := Lib.hid hd
              clear hx1 hx2 hx3 hx4 hx5 hx6 hd h1
              have hg0r : wr.cell? ⟨w.heap.size, 0, none⟩ = some (.int .i64 V) := (hbr'.cell (p := ⟨w.heap.size, 0, none⟩) hgl).trans (Tab_cell hbe hg0')
              have hg1r : wr.cell? ⟨w.heap.size, 1, none⟩ = some (.slice A E.length c) := (hbr'.cell (p := ⟨w.heap.size, 1, none⟩) hgl).trans (Tab_cell hbe hg1')
              have hbwr : Below w.heap.size w wr := hbw.trans ((hbe.trans hbr').mono (by omega))
              obtain ⟨lf, hlf, hlf0, hlf1, hfv'⟩ : ∃ lf : Int, lf = (d : Int) + 1 ∧ 1 ≤ lf ∧ lf ≤ 40 ∧ wr.cell? ⟨wb.heap.size, v, none⟩ = some (.int .i64 (lf + 1)) := ⟨(d : Int) + 1, rfl, by omega, by omega, by rw [hfv]; congr 2⟩
              have HLF := Lib.hid hlf
              clear hlf hfv
              go_wp2_with fail
              refine (near_any V v A E c _ (by omega) hl (hE.later hbwr)).mono ?_
              rintro e w5 ⟨rfl, hb5⟩
              have hR5 := hRr.later hb5
              have hbw5 := bthen hbwr hb5
              clear hg0r hg1r
              go_upto_block 9 with fail
              go_cut [18, 20, 21] from 115 to 143 (fun vv _ _ wx => vv = .int .i64 x ∧ w5 = wx)
              case first =>
                obtain ⟨M, hM⟩ : ∃ M, M = nearS E (v : Int) &&& inn := ⟨_, rfl⟩
                rw [← hM] at HX1 ⊢
                have hMin : ∀ y, M.getLsbD y = true → y < 30 := fun y hy => by
                  rw [hM, BitVec.getLsbD_and, Bool.and_eq_true] at hy
                  have := (HG.out.inn y).1 hy.2
                  have := HG.out.small
                  omega
                have HMin := Lib.hid hMin
                clear hM hMin
                go_wp2_with fail
                go_loopg [18, 20] (bitsOf M).length (fun gi vv sv wi => ∃ (X : BitVec 32) (pr : List Nat), vv = .int .i64 v ∧ sv = .int .u32 (uz X) ∧ Hid (bitsOf M = pr ++ bitsOf X ∧ (∀ y, y ∈ pr → ¬ f y = d + 1) ∧ gi = (bitsOf X).length) ∧ w5 = wi)
                case atStart => exact ⟨M, [], rfl, rfl, ⟨rfl, (fun y hy => by cases hy), rfl⟩, rfl⟩
                case round =>
                  obtain ⟨X, pr, rfl, rfl, hX, rfl⟩ := hrel
                  have hx0 : X ≠ 0#32 := fun e => by
                    obtain ⟨e1, e2, _⟩ := hX.out
                    rw [e, bitsOf_zero, List.append_nil] at e1
                    have h1 := List.mem_of_find?_eq_some HX1.out
                    rw [e1] at h1
                    exact e2 x h1 HX5.out
                  have HX0 := Lib.hid hx0
                  clear hx0
                  have hcm : ctz X ∈ bitsOf M := by
                    rw [hX.out.1, bitsOf_cons X HX0.out]; simp
                  have hc30 : ctz X < 30 := HMin.out _ (mem_bitsOf.1 hcm)
                  have hc1 : (0 : Int) ≤ (ctz X : Int) := by omega
                  have hc2 : (ctz X : Int) < 30 := by omega
                  have hcc : w5.cell? ⟨wb.heap.size, ctz X, none⟩ = some (.int .i64 (f (ctz X))) := (hR5.cell _).trans (fl_at _ _ hc30)
                  have hT5 := hT.later hbw5
                  have HT5 := Lib.hid hT5
                  clear hcm hT5
                  by_cases hfx : f (ctz X) = d + 1
                  · have htest : ((f (ctz X) : Int) == lf) = true := by rw [beq_iff_eq, HLF.out, hfx]; omega
                    have hxe : x = ctz X := by
                      have h1 := HX1.out
                      obtain ⟨e1, e2, _⟩ := hX.out
                      rw [e1, bitsOf_cons X HX0.out, List.find?_append, List.find?_eq_none.2 (fun y hy => by simpa using e2 y hy)] at h1
                      rw [List.find?_cons_of_pos (by simpa using hfx)] at h1
                      simpa using h1.symm
                    have HXE := Lib.hid hxe
                    clear hfx hxe
                    go_wp2_with (go_at_call 95; refine (tz_any X _ HT5.out).mono ?_; rintro e w' ⟨rfl, rfl⟩)
                    go_meet
                    exact ⟨by rw [HXE.out], rfl⟩
                  · have htest : ((f (ctz X) : Int) == lf) = false := by rw [beq_eq_false_iff_ne, HLF.out]; omega
                    have HFX := Lib.hid hfx
                    clear hfx
                    go_wp2_with (go_at_call 95; refine (tz_any X _ HT5.out).mono ?_; rintro e w' ⟨rfl, rfl⟩)
                    go_roundg ((bitsOf (X &&& (X - 1#32))).length)
                    case measure => rw [hX.out.2.2]; exact bitsOf_len_lt X HX0.out
                    case rel =>
                      refine ⟨X &&& (X - 1#32), pr ++ [ctz X], rfl, rfl, ⟨?_, ?_, rfl⟩, rfl⟩
                      · rw [hX.out.1, bitsOf_cons X HX0.out]; simp
                      · intro y hy
                        rcases List.mem_append.1 hy with a | a
                        · exact hX.out.2.1 y a
                        · obtain rfl : y = ctz X := by simpa using a
                          exact HFX.out
              case rest =>
                obtain ⟨rfl, rfl⟩ := hcut
                have hown5 := own_below hown hb5
                have hsz5 : wb.heap.size + 1 ≤ w5.heap.size := Nat.le_trans hsz hb5.size
                have hbr5 : Below (wb.heap.size + 1) we w5 := hbr.trans (hb5.mono hsz)
                go_wp2_with (at_builtin; refine app_int rfl (.tmp 140) (.tmp 142) rfl (wb.heap.size + 1) _ _ ((pre ++ [v]).map Int.ofNat) x rfl rfl hown5 (by omega) hsz5 ?_; intro v2 w2 hown2 hb2)
                go_roundg (d + 1)
                case measure => rw [hP.out.1, HD.out]; omega
                case rel =>
                  refine ⟨x, pre ++ [v], rfl, hx30, ?_, ?_, ⟨HX5.out.symm, by rw [HX5.out]; omega, by rw [HX5.out]; exact HX6.out, ?_⟩, hbr5.trans hb2, Nat.le_trans hsz5 hb2.size⟩
                  · have h5 := hP.out.2.2.2
                    rw [HD.out] at h5
                    have h6 := congrArg List.length h5
                    rw [List.length_append] at h6
                    simp only [gr, List.length_cons] at h6
                    simp; omega
                  · have e : (pre ++ [v]).length + 1 = pre.length + 1 + 1 := by simp
                    rw [e]
                    have e2 : (pre ++ [v] ++ [x]).map Int.ofNat = (pre ++ [v]).map Int.ofNat ++ [(x : Int)] := by simp
                    rw [e2]; exact hown2
                  · have h5 := hP.out.2.2.2
                    rw [HD.out] at h5
                    rw [HX5.out, ← h5]
                    show pre ++ [v] ++ _ = pre ++ (v :: gr E t inn f (d + 1) (pickV E inn f (d + 1) v))
                    rw [HX2.out]; simp

/-- WHAT hyper.Path ANSWERS, FOR EVERY GRAPH. -/
theorem path_any (V : Int) (s t : Int) (inner : BitVec 32) (A : Option Addr) (E : List (BitVec 32)) (c : Nat) (w : World) (hl : E.length ≤ 35184372087808) (hE : Rd w w.heap.size A (us E)) (hT : Tab w) :
    Calls Tryd.prog 48 #[.agg #[.int .i64 V, .slice A E.length c], .int .i64 s, .int .i64 t, .int .u32 (uz inner)] w fun e w' =>
      ∃ (v : Value) (Z : List Nat) (code : Int), e = .returned (.tuple #[v, .int .i64 code]) ∧ w'.ownsRow w.heap.size 3 1 v Z.length (is (Z.map Int.ofNat)) ∧ Hid (PathIs V E s t inner Z code) ∧ Below w.heap.size w w' := by
  cases hv : validB V E
  · exact (path_invalid V s t inner A E c w hl hE hv).mono fun e w' ⟨he, hb⟩ => ⟨_, [], _, he, World.ownsRow_nil _ _ _ _, .inl ⟨hv, rfl, rfl⟩, hb⟩
  · by_cases ho : s < 0 ∨ t < 0 ∨ V ≤ s ∨ V ≤ t
    · exact (path_out V s t inner A E c w hl hE hv ho).mono fun e w' ⟨he, hb⟩ => ⟨_, [], _, he, World.ownsRow_nil _ _ _ _, .inr (.inl ⟨hv, ho, rfl, rfl⟩), hb⟩
    · obtain ⟨m, rfl⟩ := Int.eq_ofNat_of_zero_le (show 0 ≤ s by omega)
      obtain ⟨n, rfl⟩ := Int.eq_ofNat_of_zero_le (show 0 ≤ t by omega)
      by_cases he : m = n
      · subst he
        exact (path_same V (m : Nat) inner A E c w hl hE hv (by omega) (by omega)).mono fun e w' ⟨g, he, hg, hR, hb⟩ =>
          ⟨_, [m], 0, he, Row.own hR hg (by simp [is, maxLen]), .inr (.inr (.inl ⟨hv, by omega, by omega, by omega, by omega, rfl, rfl, by simp⟩)), hb⟩
      · exact (path_main V m n inner A E c w hl hE hT hv (by omega) (by omega) (by rw [beq_eq_false_iff_ne]; omega)).mono fun e w' ⟨v, Z, he', hown, hZ, hb⟩ =>
          ⟨v, Z, 0, he', hown, .inr (.inr (.inr ⟨hv, by omega, by omega, by omega, by omega, by omega, rfl, by simpa using hZ.out⟩)), hb⟩
end Go.Proofs.YtbgbjodehbcgiaaDoor

/- The reference's lists: what less and Least answer; a row of slices. -/
namespace Go.Proofs.YtbgbjodehbcgiaaDoor
open Go.RowKit

attribute [local go_sem ↓] uz_and uz_or uz_andNot uz_and_one uz_shr uz_shl_one uz_shl uz_sub uz_sub_one uz_add uz_beq_zero uz_bne_zero uz_beq uz_bne uz_beq_one

/-- The values of natural numbers. -/
def ns (Z : List Nat) : List Value := is (Z.map Int.ofNat)
@[simp] theorem ns_length (Z : List Nat) : (ns Z).length = Z.length := by simp [ns]
theorem Rd.n_at {w : World} {B : Nat} {A : Option Addr} {Z : List Nat} (h : Rd w B A (ns Z)) {k : Nat} (hk : k < Z.length) :
    ∃ ad, A = some ad ∧ ad.block < B ∧ w.cell? (ad.add k) = some (.int .i64 ((Z[k] : Nat) : Int)) := by
  obtain ⟨ad, e, hl, hc⟩ := h.i_at (by simpa using hk : k < (Z.map Int.ofNat).length)
  refine ⟨ad, e, hl, hc.trans ?_⟩
  rw [List.getElem_map]; rfl
theorem lexLt_from : ∀ (a b : List Nat) (k : Nat) (ha : k < a.length) (hb : k < b.length), a.take k = b.take k → a[k] ≠ b[k] → lexLt a b = decide (a[k] < b[k])
  | x :: a, y :: b, 0, _, _, _, hne => by
    have : x ≠ y := hne
    simp [lexLt, this]
  | x :: a, y :: b, k + 1, ha, hb, ht, hne => by
    simp only [List.take_succ_cons, List.cons.injEq] at ht
    unfold lexLt
    rw [if_pos ht.1]
    simpa using lexLt_from a b k (by simpa using ha) (by simpa using hb) ht.2 (by simpa using hne)

theorem lessN_any (A A' : Option Addr) (Z Y : List Nat) (c c' : Nat) (w : World) (hl : Z.length ≤ 35184372087808) (_hl' : Y.length ≤ 35184372087808) (hZ : Rd w w.heap.size A (ns Z)) (hY : Rd w w.heap.size A' (ns Y)) :
    Calls Tryd.prog 102 #[.slice A Z.length c, .slice A' Y.length c'] w fun e w' => e = .returned (.bool (lessL Z Y)) ∧ ∃ n, w' = w.drewN n := by
  by_cases hlen : Z.length = Y.length
  · have hne : ((Z.length : Int) != (Y.length : Int)) = false := by simp [hlen]
    have hlx : lessL Z Y = lexLt Z Y := by rw [lessL, if_pos hlen]
    rw [hlx]
    have HL := Lib.hid hlen
    clear hlen hlx
    go_enter Tryd.func102, Tryd.ntmps102
    go_wp2_with fail
    go_loopw [5] (fun i wr => ∃ k : Nat, k ≤ Z.length ∧ i = .int .i64 k ∧ Hid (Z.take k = Y.take k) ∧ ∃ n, wr = w.drewN n) (fun i _ => Z.length - (intOf i).toNat)
    case atStart => exact ⟨0, Nat.zero_le _, rfl, rfl, 0, rfl⟩
    case round =>
      obtain ⟨k, hk, rfl, heq, n, rfl⟩ := hrel
      by_cases hlt : k < Z.length
      · have hlt' : k < Y.length := by have := HL.out; omega
        obtain ⟨ad, hA, _, hc⟩ := hZ.n_at hlt
        obtain ⟨ad', hA', _, hc'⟩ := hY.n_at hlt'
        subst hA
        subst hA'
        have hs := take_snoc Z k hlt
        have hs' := take_snoc Y k hlt'
        have hat : Z[k] ≠ Y[k] → lexLt Z Y = decide (Z[k] < Y[k]) := fun h => lexLt_from Z Y k hlt hlt' heq.out h
        generalize Z[k] = x at hc hs hat
        generalize Y[k] = y at hc' hs' hat
        have HS := Lib.hid hs
        have HS' := Lib.hid hs'
        have HA := Lib.hid hat
        clear hs hs' hat
        have b1 : (0 : Int) ≤ k := by omega
        have b2 : (k : Int) < Z.length := by omega
        have b3 : (k : Int) < Y.length := by omega
        by_cases hxy : x = y
        · have hne' : ((x : Int) != (y : Int)) = false := by simp [hxy]
          have HX := Lib.hid hxy
          clear hxy
          go_wp2_with fail
          go_quiet (fail)
          go_wp2_with fail
          go_roundw
          case rel => exact ⟨k + 1, by omega, by go_num, by show _ = _; rw [HS.out, HS'.out, heq.out, HX.out], _, rfl⟩
          case measure => simp [intOf]; omega
        · have hne' : ((x : Int) != (y : Int)) = true := by simp; omega
          have hf := HA.out hxy
          clear hxy
          go_wp2_with fail
          go_quiet (fail)
          go_wp2_with fail
          go_quiet (fail)
          go_wp2_with fail
          go_ret
          refine ⟨?_, _, by rw [World.drewN_drewN, World.drewN_drewN]⟩
          rw [hf]
          refine congrArg (fun b => Ending.returned (.bool b)) ?_
          first | rfl | (rw [Bool.eq_iff_iff]; simp)
      · have hZY : Z = Y := by
          have := heq.out
          rw [List.take_of_length_le (by omega), List.take_of_length_le (by have := HL.out; omega)] at this
          exact this
        have hf : lexLt Z Y = false := by rw [hZY]; exact lexLt_irrefl _
        clear hZY
        go_wp2_with fail
        go_ret
        exact ⟨by first | rfl | (rw [hf]; rfl), _, rfl⟩
  · have hne : ((Z.length : Int) != (Y.length : Int)) = true := by simp; omega
    have hf : lessL Z Y = decide (Z.length < Y.length) := by rw [lessL, if_neg hlen]
    rw [hf]
    clear hlen hf
    go_enter Tryd.func102, Tryd.ntmps102
    go_wp2_with fail
    go_ret
    refine ⟨?_, 0, rfl⟩
    refine congrArg (fun b => Ending.returned (.bool b)) ?_
    first | rfl | (rw [Bool.eq_iff_iff]; simp)

/-- Least, the second list not empty: it says which it gives. -/
theorem least_any (A A' : Option Addr) (Z Y : List Nat) (c c' : Nat) (w : World) (hl : Z.length ≤ 35184372087808) (hl' : Y.length ≤ 35184372087808) (hZ : Rd w w.heap.size A (ns Z)) (hY : Rd w w.heap.size A' (ns Y)) (hne : 0 < Y.length) :
    Calls Tryd.prog 59 #[.slice A Z.length c, .slice A' Y.length c'] w fun e w' => ∃ (A1 : Option Addr) (c1 : Nat), e = .returned (.slice A1 (leastL Z Y).length c1) ∧ ((A1 = A ∧ leastL Z Y = Z) ∨ (A1 = A' ∧ leastL Z Y = Y)) ∧ ∃ n, w' = w.drewN n := by
  have hY0 : Y ≠ [] := fun e => by subst e; simp at hne
  by_cases h0 : Z.length = 0
  · have hZ0 : Z = [] := List.length_eq_zero_iff.1 h0
    have hL : leastL Z Y = Y := by rw [leastL, if_pos (.inl hZ0)]
    rw [hL]
    have h0' : ((Z.length : Int) == 0) = true := by simp [h0]
    clear h0 hZ0 hL hY0
    go_enter Tryd.func59, Tryd.ntmps59
    go_wp2_with fail
    go_ret
    exact ⟨A', c', rfl, by simp, 0, rfl⟩
  · have hZ0 : Z ≠ [] := fun e => h0 (by rw [e]; rfl)
    have h0' : ((Z.length : Int) == 0) = false := by simpa using hZ0
    have hlt0 : (0 : Int) < Y.length := by omega
    cases hb : lessL Y Z
    · have hL : leastL Z Y = Z := by exact if_neg (fun h => h.elim (fun h => hZ0 h) (fun h => by rw [hb] at h; cases h.2))
      rw [hL]
      clear h0 hZ0 hL hY0
      go_enter Tryd.func59, Tryd.ntmps59
      go_wp2_with fail
      refine (lessN_any A' A Y Z c' c w hl' hl hY hZ).mono ?_
      rintro e w1 ⟨rfl, n, rfl⟩
      rw [hb]
      go_wp2
      go_ret
      exact ⟨A, c, rfl, by simp, n, rfl⟩
    · have hL : leastL Z Y = Y := by rw [leastL, if_pos (.inr ⟨hY0, hb⟩)]
      rw [hL]
      clear h0 hZ0 hL hY0
      go_enter Tryd.func59, Tryd.ntmps59
      go_wp2_with fail
      refine (lessN_any A' A Y Z c' c w hl' hl hY hZ).mono ?_
      rintro e w1 ⟨rfl, n, rfl⟩
      rw [hb]
      go_wp2
      go_ret
      exact ⟨A', c', rfl, by simp, n, rfl⟩

/-! ### A row of lists -/
/-- Block g holds V slices: the v-th's cells, which lie elsewhere, hold the list b v; none is longer than L. -/
structure Grid (w : World) (g : Nat) (V : Nat) (b : Nat → List Nat) (L : Nat) : Prop where
  row : ∃ S : List Value, S.length = V ∧ Row w g 39 S ∧ ∀ v, v < V → ∃ A c, S[v]? = some (.slice A (b v).length c) ∧ Rd w w.heap.size A (ns (b v)) ∧ ∀ ad, A = some ad → ad.block ≠ g
  len : ∀ v, (b v).length ≤ L
theorem Grid.at_ {w : World} {g V L : Nat} {b : Nat → List Nat} (h : Grid w g V b L) {v : Nat} (hv : v < V) :
    ∃ A c, w.cell? ⟨g, v, none⟩ = some (.slice A (b v).length c) ∧ w.frozen? ⟨g, v, none⟩ = false ∧ Rd w w.heap.size A (ns (b v)) ∧ ∀ ad, A = some ad → ad.block ≠ g := by
  obtain ⟨S, hS, hR, hA⟩ := h.row
  obtain ⟨A, c, h1, h2, h3⟩ := hA v hv
  exact ⟨A, c, (hR.cell v).trans h1, hR.frozen v, h2, h3⟩
theorem Grid.later {w w' : World} {g V L : Nat} {b : Nat → List Nat} (h : Grid w g V b L) (hb : Below w.heap.size w w') : Grid w' g V b L := by
  obtain ⟨S, hS, hR, hA⟩ := h.row
  exact ⟨⟨S, hS, hR.later hb, fun v hv => by
    obtain ⟨A, c, h1, h2, h3⟩ := hA v hv
    exact ⟨A, c, h1, h2.later hb, h3⟩⟩, h.len⟩
theorem Grid.lt {w : World} {g V L : Nat} {b : Nat → List Nat} (h : Grid w g V b L) : g < w.heap.size := by
  obtain ⟨S, _, hR, _⟩ := h.row
  exact hR.lt
theorem Grid.mono {w : World} {g V L L' : Nat} {b : Nat → List Nat} (h : Grid w g V b L) (hL : L ≤ L') : Grid w g V b L' := ⟨h.row, fun v => Nat.le_trans (h.len v) hL⟩
/-- One list more, stored at v. -/
theorem Grid.set_ {w : World} {g V L : Nat} {b : Nat → List Nat} (h : Grid w g V b L) {v : Nat} (hv : v < V) {A : Option Addr} {c : Nat} {x : List Nat} (hx : Rd w w.heap.size A (ns x)) (hn : ∀ ad, A = some ad → ad.block ≠ g) {L' : Nat} (hL : L ≤ L') (hl : x.length ≤ L') :
    Grid (w.setCell ⟨g, v, none⟩ (.slice A x.length c)) g V (upd b v x) L' := by
  obtain ⟨S, hS, hR, hA⟩ := h.row
  have far : ∀ (A : Option Addr) (ys : List Value), Rd w w.heap.size A ys → (∀ ad, A = some ad → ad.block ≠ g) → Rd (w.setCell ⟨g, v, none⟩ (.slice A x.length c)) (w.setCell ⟨g, v, none⟩ (.slice A x.length c)).heap.size A ys := fun A ys hr hg k hk => by
    obtain ⟨ad, e, hl, hc⟩ := hr k hk
    refine ⟨ad, e, by simpa using hl, ?_⟩
    rw [World.cell?_of_block (Below.heap_setCell w ⟨g, v, none⟩ _ (ad.add k).block (by rw [block_add]; exact hg ad e))]
    exact hc
  have far' : ∀ (u : Value) (A : Option Addr) (ys : List Value), Rd w w.heap.size A ys → (∀ ad, A = some ad → ad.block ≠ g) → Rd (w.setCell ⟨g, v, none⟩ u) (w.setCell ⟨g, v, none⟩ u).heap.size A ys := fun u A ys hr hg k hk => by
    obtain ⟨ad, e, hl, hc⟩ := hr k hk
    refine ⟨ad, e, by simpa using hl, ?_⟩
    rw [World.cell?_of_block (Below.heap_setCell w ⟨g, v, none⟩ _ (ad.add k).block (by rw [block_add]; exact hg ad e))]
    exact hc
  clear far
  refine ⟨⟨S.set v (.slice A x.length c), by simpa using hS, hR.set_ v _, fun u hu => ?_⟩, fun u => ?_⟩
  · by_cases e : u = v
    · subst e
      refine ⟨A, c, ?_, ?_, hn⟩
      · simp [upd, hS, hu]
      · simp only [upd, if_true]
        exact far' _ A _ hx hn
    · obtain ⟨A1, c1, h1, h2, h3⟩ := hA u hu
      refine ⟨A1, c1, ?_, ?_, h3⟩
      · rw [List.getElem?_set_ne (Ne.symm e)]; simpa [upd, e] using h1
      · simp only [upd, if_neg e]; exact far' _ A1 _ h2 h3
  · unfold upd
    split
    · exact hl
    · exact Nat.le_trans (h.len u) hL
theorem Tryd.info_ints : (Tryd.prog.info? 39).map (fun i => (i.zero, i.size, i.bytes)) = some (some (.slice none 0 0), 1, 24) := by kernel_rfl
theorem mk_lists (n : Nat) (h : n ≤ 1000) (w : World) : (Instr.makeSlice 157 (.int .i64 (n : Int)) (.int .i64 (n : Int))).run Tryd.prog w = .ok (.slice (some ⟨w.heap.size, 0, none⟩) n n) (w.alloc (.cells (zeros (.slice none 0 0) n).toArray 39)) := by
  rw [← madeCells_zeros]
  exact run_make_row' 157 39 (.slice none 0 0) 24 Tryd.underlying157 Tryd.info_ints rfl .i64 .i64 n (by omega) (by omega) w
theorem Grid.new (w : World) (V : Nat) : Grid (w.alloc (.cells (zeros (.slice none 0 0) V).toArray 39)) w.heap.size V (fun _ => []) 0 := by
  refine ⟨⟨zeros (.slice none 0 0) V, zeros_length _ _, Row.new _ _ _, fun v hv => ⟨none, 0, ?_, Rd.nil, fun ad e => by cases e⟩⟩, fun _ => Nat.le_refl _⟩
  simp [zeros, hv]
theorem Grid.of_eq {w : World} {g V L : Nat} {b b' : Nat → List Nat} (h : Grid w g V b L) (he : b = b') : Grid w g V b' L := he ▸ h
end Go.Proofs.YtbgbjodehbcgiaaDoor

/- The contract of the reference's Path. -/
namespace Go.Proofs.YtbgbjodehbcgiaaDoor
open Go.RowKit

attribute [local go_sem ↓] uz_and uz_or uz_andNot uz_and_one uz_shr uz_shl_one uz_shl uz_sub uz_sub_one uz_add uz_beq_zero uz_bne_zero uz_beq uz_bne uz_beq_one

theorem rpath_invalid (V : Int) (s t : Int) (inner : BitVec 32) (A : Option Addr) (E : List (BitVec 32)) (c : Nat) (w : World) (hl : E.length ≤ 35184372087808) (hE : Rd w w.heap.size A (us E)) (hv : validB V E = false) :
    Calls Tryd.prog 56 #[.agg #[.int .i64 V, .slice A E.length c], .int .i64 s, .int .i64 t, .int .u32 (uz inner)] w fun e w' => e = .returned (.tuple #[.slice none 0 0, .int .i64 140]) ∧ Below w.heap.size w w' := by
  go_enter Tryd.func56, Tryd.ntmps56
  go_wp2_with fail
  have hb0 := below_alloc w (.cells #[.int .i64 V, .slice A E.length c] 28)
  refine (r14valid_any V A E c _ hl (hE.later hb0)).mono ?_
  rintro e w1 ⟨rfl, hb⟩
  rw [hv]
  go_wp2
  go_ret2
  exact ⟨rfl, bthen hb0 hb⟩
set_option maxRecDepth 100000 in
theorem rpath_out (V : Int) (s t : Int) (inner : BitVec 32) (A : Option Addr) (E : List (BitVec 32)) (c : Nat) (w : World) (hl : E.length ≤ 35184372087808) (hE : Rd w w.heap.size A (us E)) (hv : validB V E = true) (ho : s < 0 ∨ t < 0 ∨ V ≤ s ∨ V ≤ t) :
    Calls Tryd.prog 56 #[.agg #[.int .i64 V, .slice A E.length c], .int .i64 s, .int .i64 t, .int .u32 (uz inner)] w fun e w' => e = .returned (.tuple #[.slice none 0 0, .int .i64 141]) ∧ Below w.heap.size w w' := by
  go_enter Tryd.func56, Tryd.ntmps56
  go_wp2_with fail
  have hb0 := below_alloc w (.cells #[.int .i64 V, .slice A E.length c] 28)
  refine (r14valid_any V A E c _ hl (hE.later hb0)).mono ?_
  rintro e w1 ⟨rfl, hb⟩
  rw [hv]
  obtain ⟨hc, hf⟩ := bcell hb
  go_upto_region 3 with fail
  go_cut [33] (fun x wc => x = .bool true ∧ w1 = wc)
  case first =>
    go_wp2_with fail
    all_goals
      go_meet
      refine ⟨congrArg Value.bool ?_, rfl⟩
      first | rfl | (simp; done) | (simp; omega)
  case rest =>
    obtain ⟨rfl, rfl⟩ := hcut
    go_wp2
    go_ret2
    exact ⟨rfl, bthen hb0 hb⟩
set_option maxRecDepth 100000 in
theorem rpath_same (V : Int) (s : Int) (inner : BitVec 32) (A : Option Addr) (E : List (BitVec 32)) (c : Nat) (w : World) (hl : E.length ≤ 35184372087808) (hE : Rd w w.heap.size A (us E)) (hv : validB V E = true) (h0 : 0 ≤ s) (h1 : s < V) :
    Calls Tryd.prog 56 #[.agg #[.int .i64 V, .slice A E.length c], .int .i64 s, .int .i64 s, .int .u32 (uz inner)] w fun e w' => ∃ g, e = .returned (.tuple #[.slice (some ⟨g, 0, none⟩) 1 1, .int .i64 0]) ∧ w.heap.size ≤ g ∧ Row w' g 3 (is [s]) ∧ Below w.heap.size w w' := by
  go_enter Tryd.func56, Tryd.ntmps56
  go_wp2_with fail
  have hb0 := below_alloc w (.cells #[.int .i64 V, .slice A E.length c] 28)
  refine (r14valid_any V A E c _ hl (hE.later hb0)).mono ?_
  rintro e w1 ⟨rfl, hb⟩
  rw [hv]
  obtain ⟨hc, hf⟩ := bcell hb
  have hb1 := bthen hb0 hb
  go_upto_region 3 with fail
  go_cut [33] (fun x wc => x = .bool false ∧ w1 = wc)
  case first =>
    go_wp2_with fail
    all_goals
      go_meet
      refine ⟨congrArg Value.bool ?_, rfl⟩
      first | rfl | (simp; done) | (simp; omega)
  case rest =>
    obtain ⟨rfl, rfl⟩ := hcut
    go_wp2
    go_ret2
    exact ⟨_, rfl, hb1.size, Row.new _ _ _, hb1.alloc hb1.size _⟩

/-- Is the pair (v, u) passed over? -/
def skipB (E : List (BitVec 32)) (s t : Nat) (inner : BitVec 32) (b : Nat → List Nat) (v u : Nat) : Bool :=
  ((v : Int) == (t : Int)) || (((b u).length : Int) == 0) || !nearB E v u || ((u : Int) == (s : Int)) || (((u : Int) != (t : Int)) && !inB inner u)
theorem skip_true {E : List (BitVec 32)} {s t : Nat} {inner : BitVec 32} {b : Nat → List Nat} {v u : Nat} (h : skipB E s t inner b v u = true) : v = t ∨ b u = [] ∨ ¬ adj E v u ∨ ¬ okV s t inner u := by
  unfold skipB at h
  simp only [Bool.or_eq_true, Bool.and_eq_true, beq_iff_eq, bne_iff_ne, Bool.not_eq_true'] at h
  rcases h with (((h | h) | h) | h) | h
  · exact .inl (by omega)
  · exact .inr (.inl (List.length_eq_zero_iff.1 (by omega)))
  · exact .inr (.inr (.inl fun a => by rw [(nearB_iff E v u).2 a] at h; cases h))
  · exact .inr (.inr (.inr fun a => a.1 (by omega)))
  · refine .inr (.inr (.inr fun a => ?_))
    rcases a.2 with c | c
    · exact h.1 (by omega)
    · rw [← inB_nat, h.2] at c; cases c
theorem skip_false {E : List (BitVec 32)} {s t : Nat} {inner : BitVec 32} {b : Nat → List Nat} {v u : Nat} (h : skipB E s t inner b v u = false) : v ≠ t ∧ b u ≠ [] ∧ adj E v u ∧ okV s t inner u := by
  unfold skipB at h
  simp only [Bool.or_eq_false_iff, Bool.and_eq_false_iff, beq_eq_false_iff_ne, bne_eq_false_iff_eq, Bool.not_eq_false'] at h
  obtain ⟨⟨⟨⟨h1, h2⟩, h3⟩, h4⟩, h5⟩ := h
  refine ⟨fun e => h1 (by omega), fun e => h2 (by rw [e]; rfl), (nearB_iff E v u).1 h3, fun e => h4 (by omega), ?_⟩
  rcases h5 with h5 | h5
  · exact .inl (by omega)
  · exact .inr (by rw [← inB_nat]; exact h5)

theorem Grid.least {w : World} {g V L : Nat} {b : Nat → List Nat} (h : Grid w g V b L) {v u : Nat} (hv : v < V) {Av A1 : Option Addr} {g' c1 : Nat} (hRv : Rd w w.heap.size Av (ns (b v))) (hnv : ∀ ad, Av = some ad → ad.block ≠ g)
    (hRn : Rd w w.heap.size (some ⟨g', 0, none⟩) (ns (v :: b u))) (hne : g' ≠ g) (hd : (A1 = Av ∧ leastL (b v) (v :: b u) = b v) ∨ (A1 = some ⟨g', 0, none⟩ ∧ leastL (b v) (v :: b u) = v :: b u)) (nd : Nat) :
    Grid ((w.drewN nd).setCell ⟨g, v, none⟩ (.slice A1 (leastL (b v) (v :: b u)).length c1)) g V (upd b v (leastL (b v) (v :: b u))) (L + 1) := by
  have h2 := h.later (below_drewN (Below.refl w.heap.size w) nd)
  have hl := h.len v
  have hl2 := h.len u
  rcases hd with ⟨rfl, e⟩ | ⟨rfl, e⟩
  · rw [e]
    exact h2.set_ hv (hRv.later (below_drewN (Below.refl _ _) nd)) hnv (by omega) (by omega)
  · rw [e]
    exact h2.set_ hv (hRn.later (below_drewN (Below.refl _ _) nd)) (fun ad e => by injection e with e; subst e; exact hne) (by omega) (by simp; omega)

set_option maxRecDepth 100000 in
/-- 'append([]int{x}, Z...)' at a step of a region that draws. -/
theorem step_app_list {ops : Array Oper} {o : Oper} {a : Act} {w : World} {K : Act → World → Prop} {Q : Exit → Act → World → Prop} {F : Prop} (hgd : o.guard = none) (s y : Operand)
    (ho : o.op = .call { callee := .builtin .append, args := #[s, y], argTypes := #[39, 39] })
    (x : Nat) (Z : List Nat) (ad : Addr) (c : Nat) (hs : a.eval s = .slice (some ⟨w.heap.size, 0, none⟩) 1 1) (hy : a.eval y = .slice (some ad) Z.length c)
    (hZ : Rd w w.heap.size (some ad) (ns Z)) (h0 : 0 < Z.length) (hl : Z.length ≤ 100000)
    (h : ∀ g cap w', w.heap.size ≤ g → Rd w' w'.heap.size (some ⟨g, 0, none⟩) (ns (x :: Z)) → Below w.heap.size w w' → K (a.put o.dst (.slice (some ⟨g, 0, none⟩) (x :: Z).length cap)) w') :
    if Region.wanted o (yielded ops a.tmps) = true then Oper.wp Tryd.prog o a (w.alloc (.cells #[.int .i64 (x : Int)] 3)).drew K Q else F := by
  obtain ⟨i, hi, hz, hs1, hb1⟩ := info_parts Tryd.info_int
  have hown : (w.alloc (.cells #[.int .i64 (x : Int)] 3)).drew.ownsRow w.heap.size 3 1 (.slice (some ⟨w.heap.size, 0, none⟩) 1 1) 1 (ns [x]) := Row.own (Row.new w 3 (ns [x])) (Nat.le_refl _) (by simp [maxLen])
  have hb0 : Below w.heap.size w (w.alloc (.cells #[.int .i64 (x : Int)] 3)).drew := (below_alloc w (.cells #[.int .i64 (x : Int)] 3)).drew
  have hZ' := hZ.later hb0
  refine step_append_lies _ hgd s y 39 ho w.heap.size 3 i (.int .i64 0) 1 8 Tryd.underlying39 hi hz hs1 hb1 rfl (by decide) _ 1 (ns [x]) hs hown ad Z.length c (ns Z) hy (by simp) ?_ (is_one _) h0 (by unfold maxLen; omega) (by omega) hb0.size _ rfl ?_
  · intro j u hj
    obtain ⟨hj', rfl⟩ := List.getElem?_eq_some_iff.1 hj
    obtain ⟨ad', e, _, hc⟩ := hZ' j hj'
    injection e with e
    subst e
    exact hc
  · intro g cap w' hown' hg hat hlt
    have hb : Below w.heap.size w w' := hb0.grown hg hb0.size fun k hk => (hown.lt k hk).1
    have e : (x :: Z).length = 1 + Z.length := by simp [Nat.add_comm]
    rw [← e] at hown'
    obtain ⟨A, c1, hv, _, _, hr, hge⟩ := Rd.of_own hown'
    injection hv with hv
    subst hv
    rw [← e]
    exact h g cap w' (hge _ rfl) hr hb

set_option maxRecDepth 100000 in
set_option maxHeartbeats 4000000 in
theorem rpath_main (n : Nat) (s t : Nat) (inner : BitVec 32) (A : Option Addr) (E : List (BitVec 32)) (c : Nat) (w : World) (hl : E.length ≤ 35184372087808) (hE : Rd w w.heap.size A (us E)) (hv : validB (n : Int) E = true)
   (hs1 : s < n) (ht1 : t < n) (hne : ((s : Int) == (t : Int)) = false) :
    Calls Tryd.prog 56 #[.agg #[.int .i64 (n : Int), .slice A E.length c], .int .i64 s, .int .i64 t, .int .u32 (uz inner)] w fun e w' =>
      ∃ (v : Value) (Z : List Nat), e = .returned (.tuple #[v, .int .i64 0]) ∧ w'.ownsRow w.heap.size 3 1 v Z.length (is (Z.map Int.ofNat)) ∧ Hid ((Z = [] ∧ ∀ p, IsP E s t inner p → p.head? ≠ some s) ∨ Best E s t inner Z) ∧ Below w.heap.size w w' := by
  have hn30 : n ≤ 30 := by have := (validB_of hv).2.1; omega
  have hmk := mk_lists n (by omega)
  have hne' : s ≠ t := fun e => by subst e; simp at hne
  have HG := Lib.hid (given_of (inner := inner) hv (by omega) (by omega) hne')
  rw [show ((n : Int)).toNat = n by omega] at HG
  clear hne'
  go_enter Tryd.func56, Tryd.ntmps56
  go_wp2_with fail
  have hb0 := below_alloc w (.cells #[.int .i64 (n : Int), .slice A E.length c] 28)
  refine (r14valid_any (n : Int) A E c _ hl (hE.later hb0)).mono ?_
  rintro e w1 ⟨rfl, hb⟩
  rw [hv]
  obtain ⟨hc, hf⟩ := bcell hb
  have hb1 := bthen hb0 hb
  have hg0 : w1.cell? ⟨w.heap.size, 0, none⟩ = some (.int .i64 (n : Int)) := by rw [hc _ _ (by simp)]; simp [World.cell?_alloc_new]
  have hg1 : w1.cell? ⟨w.heap.size, 1, none⟩ = some (.slice A E.length c) := by rw [hc _ _ (by simp)]; simp [World.cell?_alloc_new]
  have hgl : w.heap.size < w1.heap.size := World.block_lt_of_cell? _ _ hg0
  have hE1 := hE.later hb1
  clear hc hf hb hb0
  go_upto_region 3 with fail
  go_cut [33] (fun x wc => x = .bool false ∧ w1 = wc)
  case first =>
    go_wp2_with fail
    all_goals
      go_meet
      refine ⟨congrArg Value.bool ?_, rfl⟩
      first | rfl | (simp; done) | (simp; omega)
  case rest =>
    obtain ⟨rfl, rfl⟩ := hcut
    go_upto_region 8 with fail
    have hGr := Grid.new w1 n
    have hbx := below_alloc w1 (.cells (zeros (.slice none 0 0) n).toArray 39)
    have hsz : (w1.alloc (.cells (zeros (.slice none 0 0) n).toArray 39)).heap.size = w1.heap.size + 1 := by simp
    generalize w1.alloc (.cells (zeros (.slice none 0 0) n).toArray 39) = w2 at hGr hbx hsz ⊢
    obtain ⟨A0, c0, k0, k1, _⟩ := hGr.at_ ht1
    have hlt2 : w1.heap.size < w2.heap.size := by omega
    have b1 : (0 : Int) ≤ t := by omega
    have b2 : (t : Int) < n := by omega
    have e0 := Tab_cell hbx hg0
    have e1 : w.heap.size < w2.heap.size := by omega
    go_wp2_with fail
    have hR2 : Rd (w2.alloc (.cells #[.int .i64 (t : Int)] 3)) (w2.alloc (.cells #[.int .i64 (t : Int)] 3)).heap.size (some ⟨w1.heap.size + 1, 0, none⟩) (ns [t]) := by
      have := (Row.new w2 3 (ns [t])).rd
      rw [hsz] at this
      exact this
    have hGr3 := (hGr.later (below_alloc w2 (.cells #[.int .i64 (t : Int)] 3))).set_ ht1 (c := 1) hR2 (fun ad e => by injection e with e; subst e; simp) (Nat.zero_le 1) (Nat.le_refl _)
    have hb3 : Below w1.heap.size w1 ((w2.alloc (.cells #[.int .i64 (t : Int)] 3)).setCell ⟨w1.heap.size, t, none⟩ (.slice (some ⟨w1.heap.size + 1, 0, none⟩) 1 1)) := (hbx.alloc hbx.size _).setCell (Nat.le_refl _) _
    have hGr3' : Grid ((w2.alloc (.cells #[.int .i64 (t : Int)] 3)).setCell ⟨w1.heap.size, t, none⟩ (.slice (some ⟨w1.heap.size + 1, 0, none⟩) 1 1)) w1.heap.size n (fun v => if v = t then [t] else []) 1 := hGr3
    have hcomm : (w2.alloc (.cells #[.int .i64 (t : Int)] 3)).setCell ⟨w1.heap.size, t, none⟩ (.slice (some ⟨w1.heap.size + 1, 0, none⟩) 1 1) = (w2.setCell ⟨w1.heap.size, t, none⟩ (.slice (some ⟨w1.heap.size + 1, 0, none⟩) 1 1)).alloc (.cells #[.int .i64 (t : Int)] 3) := by
      exact World.setCell_alloc_past _ _ _ _ hlt2
    rw [hcomm] at hGr3' hb3
    generalize (w2.setCell ⟨w1.heap.size, t, none⟩ (.slice (some ⟨w1.heap.size + 1, 0, none⟩) 1 1)).alloc (.cells #[.int .i64 (t : Int)] 3) = w3 at hGr3' hb3 ⊢
    clear hGr3 hR2 hGr hcomm hbx hsz k0 k1 hlt2 hmk e0 e1
    go_loopg [49] n (fun gk i wr => ∃ (r : Nat) (b : Nat → List Nat), r ≤ n ∧ gk = n - r ∧ i = .int .i64 r ∧ Grid wr w1.heap.size n b (1 + r * 900) ∧ Hid (Bst E s t n inner r b) ∧ Below w1.heap.size w1 wr)
    case atStart => exact ⟨0, _, Nat.zero_le _, rfl, rfl, hGr3', Bst.start ht1, hb3⟩
    case round =>
      clear hGr3' hb3
      obtain ⟨r, b, hr, rfl, rfl, hgr, hB, hbr⟩ := hrel
      have d0 := Tab_cell hbr hg0
      by_cases hlt : r < n
      · go_wp2_with fail
        go_loopg [11] n (fun gk i wr => ∃ (v : Nat) (b : Nat → List Nat), v ≤ n ∧ gk = n - v ∧ i = .int .i64 v ∧ Grid wr w1.heap.size n b (1 + r * 900 + v * 30) ∧ Hid (Mid E s t n inner r b v 0) ∧ Below w1.heap.size w1 wr)
        case atStart => exact ⟨0, _, Nat.zero_le _, rfl, rfl, hgr.mono (by omega), hB.out.mid, hbr⟩
        case round =>
          clear d0 hgr hB hbr
          obtain ⟨v, b, hvn, rfl, rfl, hgr, hM, hbr⟩ := hrel
          have d0 := Tab_cell hbr hg0
          by_cases hltv : v < n
          · go_wp2_with fail
            go_loopg [12] n (fun gk i wr => ∃ (u : Nat) (b : Nat → List Nat), u ≤ n ∧ gk = n - u ∧ i = .int .i64 u ∧ Grid wr w1.heap.size n b (1 + r * 900 + v * 30 + u) ∧ Hid (Mid E s t n inner r b v u) ∧ Below w1.heap.size w1 wr)
            case atStart => exact ⟨0, _, Nat.zero_le _, rfl, rfl, hgr.mono (by omega), hM.out, hbr⟩
            case round =>
              clear d0 hgr hM hbr
              obtain ⟨u, b, hun, rfl, rfl, hgr, hM, hbr⟩ := hrel
              have d0 := Tab_cell hbr hg0
              have d1 := Tab_cell hbr hg1
              by_cases hltu : u < n
              · obtain ⟨Au, cu, ku, _, hRu, hnu⟩ := hgr.at_ hltu
                have b1 : (0 : Int) ≤ u := by omega
                have b2 : (u : Int) < n := by omega
                have b3 : (0 : Int) ≤ v := by omega
                have b4 : (v : Int) < n := by omega
                have hEr := hE1.later hbr
                obtain ⟨wo, hwo⟩ : ∃ wo : World, wo = wr := ⟨_, rfl⟩
                subst hwo
                go_upto_region 17 with fail
                go_cut [12, 96] from 57 to 111 (fun ui x wx => ui = .int .i64 u ∧ x = .bool (skipB E s t inner b v u) ∧ Below wo.heap.size wo wx)
                case first =>
                  have hsk : skipB E s t inner b v u = (((v : Int) == (t : Int)) || (((b u).length : Int) == 0) || !nearB E v u || ((u : Int) == (s : Int)) || (((u : Int) != (t : Int)) && !inB inner u)) := rfl
                  have HSK := Lib.hid hsk
                  clear hsk
                  cases h1 : ((v : Int) == (t : Int))
                  · cases h2 : (((b u).length : Int) == 0)
                    · cases h3 : nearB E v u
                      · go_wp2_with (go_at_call 68; refine (r14near_any (n : Int) v u A E c _ hl hEr).mono ?_; rintro e w2 ⟨rfl, hb2⟩; rw [h3])
                        go_meet
                        exact ⟨rfl, congrArg Value.bool (by rw [HSK.out, h1, h2, h3]; rfl), hb2⟩
                      · cases h4 : ((u : Int) == (s : Int))
                        · cases h5 : ((u : Int) != (t : Int))
                          · go_wp2_with (go_at_call 68; refine (r14near_any (n : Int) v u A E c _ hl hEr).mono ?_; rintro e w2 ⟨rfl, hb2⟩; rw [h3])
                            go_meet
                            exact ⟨rfl, congrArg Value.bool (by rw [HSK.out, h1, h2, h3, h4, h5]; rfl), hb2⟩
                          · go_wp2_with (first | (go_at_call 68; refine (r14near_any (n : Int) v u A E c _ hl hEr).mono ?_; rintro e w2 ⟨rfl, hb2⟩; rw [h3]) | (go_at_call 55; refine (in_any _ _ _).mono ?_; rintro e w' ⟨rfl, rfl⟩))
                            go_meet
                            exact ⟨rfl, congrArg Value.bool (by rw [HSK.out, h1, h2, h3, h4, h5]; rfl), hb2⟩
                        · go_wp2_with (go_at_call 68; refine (r14near_any (n : Int) v u A E c _ hl hEr).mono ?_; rintro e w2 ⟨rfl, hb2⟩; rw [h3])
                          go_meet
                          exact ⟨rfl, congrArg Value.bool (by rw [HSK.out, h1, h2, h3, h4]; rfl), hb2⟩
                    · go_wp2_with fail
                      go_meet
                      exact ⟨rfl, congrArg Value.bool (by rw [HSK.out, h1, h2]; rfl), Below.refl _ _⟩
                  · go_wp2_with fail
                    go_meet
                    exact ⟨rfl, congrArg Value.bool (by rw [HSK.out, h1]; rfl), Below.refl _ _⟩
                case rest =>
                  obtain ⟨rfl, rfl, hbc⟩ := hcut
                  have hgc := hgr.later hbc
                  have hbw := bthen hbr (show Below wo.heap.size wo wc from hbc)
                  cases hsk : skipB E s t inner b v u
                  · obtain ⟨g1, g2, g3, g4⟩ := skip_false hsk
                    have HB := Lib.hid (hM.out.better hltu g1 g2 g3 g4)
                    obtain ⟨Av, cv, kv, fv, hRv, hnv⟩ := hgc.at_ hltv
                    obtain ⟨Au, cu, ku, _, hRu, hnu⟩ := hgc.at_ hltu
                    have hul : 0 < (b u).length := List.length_pos_iff.2 g2
                    clear hnu g1 g2 g3 g4
                    have hvL := hgc.len v
                    have huL := hgc.len u
                    have hglt := hgc.lt
                    obtain ⟨ad, rfl, _, _⟩ := hRu.n_at hul
                    go_upto_region 18 with fail
                    go_region_law (first
                      | (refine step_app_list rfl (.tmp 104) (.tmp 108) rfl v (b u) ad cu (by simp [Act.eval]) (by simp [Act.eval]) hRu hul (by omega) ?_; intro g' cap w' hg' hRn hbn; have kv' := Tab_cell hbn kv; have fv' := (hbn.frozen (p := ⟨w1.heap.size, v, none⟩) hglt).trans fv; have hRv' := hRv.later hbn)
                      | (go_simp; go_at_call 59; refine (least_any Av (some ⟨g', 0, none⟩) (b v) (v :: b u) cv cap _ (by omega) (by simp; omega) hRv' hRn (by simp)).mono ?_; rintro e w5 ⟨A1, c1, rfl, hd, nd, rfl⟩))
                    all_goals
                      go_wp2_with fail
                      go_roundg (n - (u + 1))
                      case measure => omega
                      case rel => exact ⟨u + 1, _, by omega, rfl, by go_num, ((hgc.later hbn).least hltv hRv' hnv hRn (by omega) hd nd).mono (by omega), HB.out, hbw.trans ((below_drewN (hbn.mono (Nat.le_of_lt hglt)) nd).setCell (Nat.le_refl _) _)⟩
                  · have HS := Lib.hid (hM.out.skip hltu (skip_true hsk))
                    go_wp2_with fail
                    go_roundg (n - (u + 1))
                    case measure => omega
                    case rel => exact ⟨u + 1, b, by omega, rfl, by go_num, hgc.mono (by omega), HS.out, hbw⟩
              · have hu : u = n := by omega
                subst hu
                have HM := Lib.hid (hM.out.next HG.out hltv)
                go_wp2_with fail
                go_roundg (u - (v + 1))
                case measure => omega
                case rel => exact ⟨v + 1, b, by omega, rfl, by go_num, hgr.mono (by omega), HM.out, hbr⟩
          · have hvn' : v = n := by omega
            subst hvn'
            have HB := Lib.hid hM.out.end_
            go_wp2_with fail
            go_roundg (v - (r + 1))
            case measure => omega
            case rel => exact ⟨r + 1, b, by omega, rfl, by go_num, hgr.mono (by omega), HB.out, hbr⟩
      · have hrn : r = n := by omega
        subst hrn
        have HB := Lib.hid (hB.out.best HG.out)
        obtain ⟨As, cs, ks, _, hRs, hns⟩ := hgr.at_ hs1
        have hls := hgr.len s
        have b3 : (0 : Int) ≤ s := by omega
        have b4 : (s : Int) < r := by omega
        have hlz : (b s).length = ((b s).map Int.ofNat).length := by simp
        have hI : ∀ wr : World, Rd wr wr.heap.size As (is ((b s).map Int.ofNat)) → Calls Tryd.prog 80 #[.slice As (b s).length cs] wr fun e w' => ∃ g, e = .returned (.slice (some ⟨g, 0, none⟩) (b s).length (b s).length) ∧ wr.heap.size ≤ g ∧ Row w' g 3 (is ((b s).map Int.ofNat)) ∧ Below wr.heap.size wr w' := fun wr h => by
          have := ints_any As ((b s).map Int.ofNat) cs wr (by simp; omega) h
          rw [← hlz] at this
          exact this
        have HI := Lib.hid hI
        clear hI hlz
        go_wp2_with fail
        refine (HI.out _ hRs).mono ?_
        rintro e w5 ⟨g5, rfl, hg5, hR5, hb5⟩
        go_wp2
        go_ret2
        refine ⟨.slice (some ⟨g5, 0, none⟩) (b s).length (b s).length, b s, rfl, ?_, HB.out, bthen hb1 (hbr.trans (hb5.mono hbr.size))⟩
        have hR6 : Row w5 g5 3 (is ((b s).map Int.ofNat)) := hR5
        have := Row.own hR6 (base := w.heap.size) (Nat.le_trans (Nat.le_trans hb1.size hbr.size) hg5) (by simp [maxLen]; omega)
        have e : (is ((b s).map Int.ofNat)).length = (b s).length := by simp
        rw [e] at this
        exact this

/-- WHAT THE REFERENCE's Path ANSWERS, FOR EVERY GRAPH. -/
theorem rpath_any (V : Int) (s t : Int) (inner : BitVec 32) (A : Option Addr) (E : List (BitVec 32)) (c : Nat) (w : World) (hl : E.length ≤ 35184372087808) (hE : Rd w w.heap.size A (us E)) :
    Calls Tryd.prog 56 #[.agg #[.int .i64 V, .slice A E.length c], .int .i64 s, .int .i64 t, .int .u32 (uz inner)] w fun e w' =>
      ∃ (v : Value) (Z : List Nat) (code : Int), e = .returned (.tuple #[v, .int .i64 code]) ∧ w'.ownsRow w.heap.size 3 1 v Z.length (is (Z.map Int.ofNat)) ∧ Hid (PathIs V E s t inner Z code) ∧ Below w.heap.size w w' := by
  cases hv : validB V E
  · exact (rpath_invalid V s t inner A E c w hl hE hv).mono fun e w' ⟨he, hb⟩ => ⟨_, [], _, he, World.ownsRow_nil _ _ _ _, .inl ⟨hv, rfl, rfl⟩, hb⟩
  · by_cases ho : s < 0 ∨ t < 0 ∨ V ≤ s ∨ V ≤ t
    · exact (rpath_out V s t inner A E c w hl hE hv ho).mono fun e w' ⟨he, hb⟩ => ⟨_, [], _, he, World.ownsRow_nil _ _ _ _, .inr (.inl ⟨hv, ho, rfl, rfl⟩), hb⟩
    · obtain ⟨m, rfl⟩ := Int.eq_ofNat_of_zero_le (show 0 ≤ s by omega)
      obtain ⟨n, rfl⟩ := Int.eq_ofNat_of_zero_le (show 0 ≤ t by omega)
      obtain ⟨q, rfl⟩ := Int.eq_ofNat_of_zero_le (validB_of hv).1
      by_cases he : m = n
      · subst he
        exact (rpath_same (q : Nat) (m : Nat) inner A E c w hl hE hv (by omega) (by omega)).mono fun e w' ⟨g, he, hg, hR, hb⟩ =>
          ⟨_, [m], 0, he, Row.own hR hg (by simp [is, maxLen]), .inr (.inr (.inl ⟨hv, by omega, by omega, by omega, by omega, rfl, rfl, by simp⟩)), hb⟩
      · exact (rpath_main q m n inner A E c w hl hE hv (by omega) (by omega) (by rw [beq_eq_false_iff_ne]; omega)).mono fun e w' ⟨v, Z, he', hown, hZ, hb⟩ =>
          ⟨v, Z, 0, he', hown, .inr (.inr (.inr ⟨hv, by omega, by omega, by omega, by omega, by omega, rfl, by simpa using hZ.out⟩)), hb⟩
end Go.Proofs.YtbgbjodehbcgiaaDoor

/- The plain law: a path doesn't hang on what the inner set says of vertices that there aren't. -/
namespace Go.Proofs.YtbgbjodehbcgiaaDoor

theorem okV_congr {s t V : Nat} {inner inner' : BitVec 32} (h : ∀ v, v < V → inner.getLsbD v = inner'.getLsbD v) {y : Nat} (hy : y < V) : okV s t inner y ↔ okV s t inner' y := by
  unfold okV
  rw [h y hy]
theorem adj_lt {E : List (BitVec 32)} {V : Nat} (hE : ∀ e ∈ E, ∀ v, e.getLsbD v = true → v < V) {x y : Nat} (h : adj E x y) : y < V := by
  obtain ⟨_, e, he, _, b⟩ := h
  exact hE e he y b
theorem isP_congr {E : List (BitVec 32)} {s t V : Nat} {inner inner' : BitVec 32} (hE : ∀ e ∈ E, ∀ v, e.getLsbD v = true → v < V) (h : ∀ v, v < V → inner.getLsbD v = inner'.getLsbD v) : ∀ {p : List Nat}, IsP E s t inner p → IsP E s t inner' p
  | [], k => k
  | [_], k => k
  | _ :: y :: r, k => ⟨k.1, k.2.1, (okV_congr h (adj_lt hE k.2.1)).1 k.2.2.1, isP_congr hE h (p := y :: r) k.2.2.2⟩
theorem best_congr {E : List (BitVec 32)} {s t V : Nat} {inner inner' : BitVec 32} (hE : ∀ e ∈ E, ∀ v, e.getLsbD v = true → v < V) (h : ∀ v, v < V → inner.getLsbD v = inner'.getLsbD v) {p : List Nat} (k : Best E s t inner p) : Best E s t inner' p :=
  ⟨isP_congr hE h k.1, k.2.1, fun q hq hh => k.2.2 q (isP_congr hE (fun v hv => (h v hv).symm) hq) hh⟩
theorem pathIs_congr {V : Int} {E : List (BitVec 32)} {s t : Int} {inner inner' : BitVec 32} {Z : List Nat} {code : Int} (hE : validB V E = true → ∀ e ∈ E, ∀ v : Nat, e.getLsbD v = true → (v : Int) < V) (h : ∀ v : Nat, (v : Int) < V → inner.getLsbD v = inner'.getLsbD v) (k : PathIs V E s t inner Z code) : PathIs V E s t inner' Z code := by
  rcases k with k | k | k | ⟨hv, h1, h2, h3, h4, h5, hc, k⟩
  · exact .inl k
  · exact .inr (.inl k)
  · exact .inr (.inr (.inl k))
  · have hE' : ∀ e ∈ E, ∀ v, e.getLsbD v = true → v < V.toNat := fun e he v hh => by have := hE hv e he v hh; omega
    have h' : ∀ v, v < V.toNat → inner.getLsbD v = inner'.getLsbD v := fun v hh => h v (by omega)
    refine .inr (.inr (.inr ⟨hv, h1, h2, h3, h4, h5, hc, ?_⟩))
    rcases k with ⟨hz, k⟩ | k
    · exact .inl ⟨hz, fun p hp => k p (isP_congr hE' (fun v hh => (h' v hh).symm) hp)⟩
    · exact .inr (best_congr hE' h' k)
end Go.Proofs.YtbgbjodehbcgiaaDoor

/- The plain law of HyperWalks: what is true of least paths, whichever way they go. No program in sight. -/
namespace Go.Proofs.YtbgbjodehbcgiaaDoor

section
variable {E : List (BitVec 32)} {s t : Nat} {inner : BitVec 32}
theorem isP_at : ∀ {p : List Nat}, IsP E s t inner p → 0 < p.length ∧ zed p (p.length - 1) = t ∧ ∀ i, i + 1 < p.length → zed p i ≠ t ∧ adj E (zed p i) (zed p (i + 1)) ∧ okV s t inner (zed p (i + 1))
  | [v], h => ⟨by simp, h, fun i hi => by simp at hi⟩
  | v :: u :: r, h => by
    obtain ⟨h1, h2, h3, h4⟩ := h
    obtain ⟨a, b, c⟩ := isP_at h4
    refine ⟨by simp, ?_, fun i hi => ?_⟩
    · rw [← b]; simp [zed]
    · cases i with
      | zero => exact ⟨h1, h2, h3⟩
      | succ i =>
        have := c i (by simpa using hi)
        simpa [zed] using this
theorem isP_of : ∀ {p : List Nat}, 0 < p.length → zed p (p.length - 1) = t → (∀ i, i + 1 < p.length → zed p i ≠ t ∧ adj E (zed p i) (zed p (i + 1)) ∧ okV s t inner (zed p (i + 1))) → IsP E s t inner p
  | [v], _, h, _ => h
  | v :: u :: r, _, h, hi => by
    obtain ⟨a, b, c⟩ := hi 0 (by simp)
    refine ⟨a, b, c, isP_of (by simp) ?_ fun i hh => ?_⟩
    · rw [← h]; simp [zed]
    · have := hi (i + 1) (by simpa using hh)
      simpa [zed] using this
theorem zed_reverse (p : List Nat) (i : Nat) (h : i < p.length) : zed p.reverse i = zed p (p.length - 1 - i) := by
  rw [← zed_eq _ i (by simpa using h), ← zed_eq _ _ (by omega), List.getElem_reverse]
theorem isP_back {p : List Nat} (h : IsP E s t inner p) (h0 : p.head? = some s) (_hne : s ≠ t) : IsP E t s inner p.reverse ∧ p.reverse.head? = some t := by
  obtain ⟨a, b, c⟩ := isP_at h
  have hz0 : zed p 0 = s := by
    cases p with
    | nil => cases h0
    | cons x r => simpa [zed] using h0
  constructor
  · refine isP_of (by simpa using a) ?_ fun i hi => ?_
    · rw [List.length_reverse, zed_reverse _ _ (by omega), show p.length - 1 - (p.length - 1) = 0 by omega, hz0]
    · rw [List.length_reverse] at hi
      rw [zed_reverse _ _ (by omega), zed_reverse _ _ (by omega)]
      have hj := c (p.length - 1 - (i + 1)) (by omega)
      rw [show p.length - 1 - (i + 1) + 1 = p.length - 1 - i by omega] at hj
      refine ⟨?_, adj_symm hj.2.1, hj.1, ?_⟩
      · intro e; exact hj.2.2.1 e
      · by_cases e : p.length - 1 - (i + 1) = 0
        · left; rw [e, hz0]
        · right
          have hk := c (p.length - 1 - (i + 1) - 1) (by omega)
          rw [show p.length - 1 - (i + 1) - 1 + 1 = p.length - 1 - (i + 1) by omega] at hk
          rcases hk.2.2.2 with x | x
          · exact absurd x hj.1
          · exact x
  · rw [List.head?_reverse, List.getLast?_eq_getElem?, List.getElem?_eq_getElem (by omega), zed_eq _ _ (by omega), b]
theorem best_min {p q : List Nat} (h : Best E s t inner p) (hq : IsP E s t inner q) (h0 : q.head? = some s) : p.length ≤ q.length := by
  have := h.2.2 q hq h0
  unfold lessL at this
  split at this
  · omega
  · simp at this; omega
theorem isP_drop : ∀ {p : List Nat} (i : Nat), IsP E s t inner p → i < p.length → IsP E s t inner (p.drop i)
  | _, 0, h, _ => h
  | [v], i + 1, _, hi => by simp at hi
  | v :: u :: r, i + 1, h, hi => isP_drop (p := u :: r) i h.2.2.2 (by simpa using hi)
theorem isP_join {r : List Nat} {y : Nat} (hr : IsP E s t inner (y :: r)) (hy : okV s t inner y) : ∀ {p : List Nat} (j : Nat), IsP E s t inner p → j < p.length → zed p j ≠ t → adj E (zed p j) y → IsP E s t inner (p.take (j + 1) ++ y :: r)
  | v :: p, 0, h, _, h1, h2 => ⟨h1, h2, hy, hr⟩
  | [v], j + 1, _, hi, _, _ => by simp at hi
  | v :: u :: p, j + 1, h, hi, h1, h2 => ⟨h.1, h.2.1, h.2.2.1, isP_join hr hy (p := u :: p) j h.2.2.2 (by simpa using hi) h1 h2⟩
theorem drop_cons_zed (p : List Nat) (i : Nat) (h : i < p.length) : p.drop i = zed p i :: p.drop (i + 1) := by
  rw [List.drop_eq_getElem_cons h, zed_eq _ _ h]
theorem no_chord {p : List Nat} (h : Best E s t inner p) {i j : Nat} (hj : j + 1 < i) (hi : i < p.length) : ¬ adj E (zed p j) (zed p i) ∧ zed p i ≠ zed p j := by
  obtain ⟨a, b, c⟩ := isP_at h.1
  have hd := isP_drop i h.1 hi
  rw [drop_cons_zed p i hi] at hd
  have hok : okV s t inner (zed p i) := by
    have := c (i - 1) (by omega)
    rw [show i - 1 + 1 = i by omega] at this
    exact this.2.2
  have head : ∀ k r, (p.take (k + 1) ++ r).head? = some s := by
    intro k r
    have h0 := h.2.1
    cases p with
    | nil => cases h0
    | cons x q => simpa using h0
  have len : ∀ k, k < p.length → (p.take (k + 1) ++ zed p i :: p.drop (i + 1)).length = k + 1 + (p.length - i) := by
    intro k hk
    rw [List.length_append, List.length_take, List.length_cons, List.length_drop]
    omega
  constructor
  · intro ha
    have := best_min h (isP_join hd hok j h.1 (by omega) (c j (by omega)).1 ha) (head _ _)
    rw [len j (by omega)] at this
    omega
  · intro e
    cases j with
    | zero =>
      have h0 : zed p 0 = s := by
        have h0 := h.2.1
        cases p with
        | nil => cases h0
        | cons x q => simpa [zed] using h0
      exact hok.1 (by rw [e, h0])
    | succ j =>
      have hcj := c j (by omega)
      have := best_min h (isP_join hd hok j h.1 (by omega) hcj.1 (by rw [e]; exact hcj.2.1)) (head _ _)
      rw [len j (by omega)] at this
      omega
theorem isP_from {v : Nat} (hne : s ≠ t) : ∀ {q : List Nat}, IsP E v t inner q → (∃ q', IsP E s t inner q' ∧ q'.head? = some s ∧ q'.length ≤ q.length) ∨ (s ∉ q ∧ IsP E s t inner q)
  | [x], h => .inr ⟨by rw [List.mem_singleton]; rintro rfl; exact hne h, h⟩
  | x :: u :: r, h => by
    obtain ⟨h1, h2, h3, h4⟩ := h
    rcases isP_from hne h4 with ⟨q', a, b, c⟩ | ⟨a, b⟩
    · exact .inl ⟨q', a, b, by simp at c ⊢; omega⟩
    · have hok : okV s t inner u := ⟨fun e => a (by rw [e]; simp), h3.2⟩
      by_cases e : x = s
      · subst e
        exact .inl ⟨x :: u :: r, ⟨h1, h2, hok, b⟩, rfl, Nat.le_refl _⟩
      · exact .inr ⟨by rw [List.mem_cons]; rintro (c | c); exact e c.symm; exact a c, h1, h2, hok, b⟩
theorem beside {v : Nat} {p q : List Nat} (hne : s ≠ t) (hp : Best E s t inner p) (hq : Best E v t inner q) (hin : inner.getLsbD v = true) (ha : adj E s v) : p.length ≤ q.length + 1 := by
  rcases isP_from hne hq.1 with ⟨q', a, b, c⟩ | ⟨_, b⟩
  · have := best_min hp a b; omega
  · have h0 := hq.2.1
    cases q with
    | nil => cases h0
    | cons x r =>
      obtain rfl : x = v := by simpa using h0
      have : IsP E s t inner (s :: x :: r) := ⟨hne, ha, ⟨fun e => ha.1 e.symm, .inr hin⟩, b⟩
      have := best_min hp this rfl
      simp at this ⊢; omega
end

/-! ### As the law asks it -/
theorem pathIs_valid {V : Int} {E : List (BitVec 32)} {s t : Int} {inner : BitVec 32} {Z : List Nat} (h : PathIs V E s t inner Z 0) : validB V E = true ∧ 0 ≤ s ∧ 0 ≤ t ∧ s < V ∧ t < V ∧ ((s = t ∧ Z = [s.toNat]) ∨ (s ≠ t ∧ ((Z = [] ∧ ∀ p, IsP E s.toNat t.toNat inner p → p.head? ≠ some s.toNat) ∨ Best E s.toNat t.toNat inner Z))) := by
  rcases h with ⟨_, c, _⟩ | ⟨_, _, c, _⟩ | ⟨a, b, c, d, e, f, _, g⟩ | ⟨a, b, c, d, e, f, _, g⟩
  · omega
  · omega
  · exact ⟨a, b, c, d, e, .inl ⟨f, g⟩⟩
  · exact ⟨a, b, c, d, e, .inr ⟨f, g⟩⟩
theorem pathIs_bad {V : Int} {E : List (BitVec 32)} {s t : Int} {inner : BitVec 32} {Z : List Nat} {k : Int} (h : PathIs V E s t inner Z k) (hk : k ≠ 0) : Z = [] := by
  rcases h with ⟨_, _, c⟩ | ⟨_, _, _, c⟩ | ⟨_, _, _, _, _, _, c, _⟩ | ⟨_, _, _, _, _, _, c, _⟩
  · exact c
  · exact c
  · exact absurd c hk
  · exact absurd c hk
theorem pathIs_code {V : Int} {E : List (BitVec 32)} {s t : Int} {inner : BitVec 32} {Z : List Nat} {k : Int} (h : PathIs V E s t inner Z k) (hv : validB V E = true) (h1 : 0 ≤ s) (h2 : 0 ≤ t) (h3 : s < V) (h4 : t < V) : k = 0 := by
  rcases h with ⟨c, _⟩ | ⟨_, c, _⟩ | ⟨_, _, _, _, _, _, c, _⟩ | ⟨_, _, _, _, _, _, c, _⟩
  · rw [hv] at c; cases c
  · omega
  · exact c
  · exact c
theorem walks_back {V : Int} {E : List (BitVec 32)} {s t : Int} {inner : BitVec 32} {Z Y : List Nat} {k : Int} (h : PathIs V E s t inner Z 0) (h' : PathIs V E t s inner Y k) : k = 0 ∧ Y.length = Z.length := by
  obtain ⟨hv, h1, h2, h3, h4, hz⟩ := pathIs_valid h
  obtain rfl := pathIs_code h' hv h2 h1 h4 h3
  obtain ⟨_, _, _, _, _, hy⟩ := pathIs_valid h'
  refine ⟨rfl, ?_⟩
  rcases hz with ⟨e, rfl⟩ | ⟨e, hz⟩
  · rcases hy with ⟨_, rfl⟩ | ⟨e', _⟩
    · rfl
    · exact absurd e.symm e'
  · rcases hy with ⟨e', _⟩ | ⟨e', hy⟩
    · exact absurd e'.symm e
    · have hne : s.toNat ≠ t.toNat := by omega
      rcases hz with ⟨rfl, hz⟩ | hz <;> rcases hy with ⟨rfl, hy⟩ | hy
      · rfl
      · obtain ⟨a, b⟩ := isP_back hy.1 hy.2.1 hne.symm
        exact absurd b (hz _ a)
      · obtain ⟨a, b⟩ := isP_back hz.1 hz.2.1 hne
        exact absurd b (hy _ a)
      · obtain ⟨a, b⟩ := isP_back hy.1 hy.2.1 hne.symm
        obtain ⟨c, d⟩ := isP_back hz.1 hz.2.1 hne
        have h1 := best_min hz a b
        have h2 := best_min hy c d
        rw [List.length_reverse] at h1 h2
        omega
theorem walks_none {V : Int} {E : List (BitVec 32)} {s t : Int} {inner : BitVec 32} (h : PathIs V E s t inner [] 0) : nearB E s t = false ∧ s ≠ t := by
  obtain ⟨hv, h1, h2, h3, h4, hz⟩ := pathIs_valid h
  obtain ⟨m, rfl⟩ := Int.eq_ofNat_of_zero_le h1
  obtain ⟨n, rfl⟩ := Int.eq_ofNat_of_zero_le h2
  rcases hz with ⟨_, e⟩ | ⟨e, ⟨_, hz⟩ | hz⟩
  · cases e
  · refine ⟨?_, e⟩
    cases hn : nearB E (m : Int) (n : Int)
    · rfl
    · have ha := (nearB_iff E m n).1 hn
      exact absurd rfl (hz [m, n] ⟨by omega, ha, ⟨by have := ha.1; exact fun e => this e.symm, .inl rfl⟩, rfl⟩)
  · exact absurd hz.2.1 (by simp)
/-- What holds at each vertex of a path that was told. -/
theorem walks_facts {V : Int} {E : List (BitVec 32)} {s t : Int} {inner : BitVec 32} {Z : List Nat} (h : PathIs V E s t inner Z 0) (hz : Z ≠ []) :
    0 < Z.length ∧ (zed Z 0 : Int) = s ∧ (zed Z (Z.length - 1) : Int) = t ∧ (∀ i, i + 1 < Z.length → nearB E (zed Z i) (zed Z (i + 1)) = true) ∧
    (∀ i, 0 < i → i + 1 < Z.length → inB inner (zed Z i) = true) ∧ ∀ i j, j + 1 < i → i < Z.length → nearB E (zed Z j) (zed Z i) = false ∧ zed Z i ≠ zed Z j := by
  obtain ⟨hv, h1, h2, h3, h4, hc⟩ := pathIs_valid h
  obtain ⟨m, rfl⟩ := Int.eq_ofNat_of_zero_le h1
  obtain ⟨n, rfl⟩ := Int.eq_ofNat_of_zero_le h2
  rcases hc with ⟨e, rfl⟩ | ⟨e, ⟨e2, _⟩ | hb⟩
  · refine ⟨by simp, by simp [zed], by simp [zed]; omega, fun i hi => by simp at hi, fun i _ hi => by simp at hi, fun i j hj hi => by simp at hi; omega⟩
  · exact absurd e2 hz
  · obtain ⟨a, b, c⟩ := isP_at hb.1
    simp only [Int.toNat_natCast] at b c hb
    have h0 : zed Z 0 = m := by
      have h0 := hb.2.1
      cases Z with
      | nil => cases h0
      | cons x q => simpa [zed] using h0
    refine ⟨a, by rw [h0], by rw [b], fun i hi => (nearB_iff E _ _).2 (c i hi).2.1, fun i hi hl => ?_, fun i j hj hi => ?_⟩
    · have h5 := (c i hl).1
      have h6 := c (i - 1) (by omega)
      rw [show i - 1 + 1 = i by omega] at h6
      rw [inB_nat]
      rcases h6.2.2.2 with x | x
      · exact absurd x h5
      · exact x
    · obtain ⟨x, y⟩ := no_chord hb hj hi
      refine ⟨?_, y⟩
      cases hn : nearB E (zed Z j : Int) (zed Z i : Int)
      · rfl
      · exact absurd ((nearB_iff E _ _).1 hn) x
theorem walks_beside {V : Int} {E : List (BitVec 32)} {s t : Int} {inner : BitVec 32} {Z Y : List Nat} {v : Nat} {k : Int} (h : PathIs V E s t inner Z 0) (hvV : (v : Int) < V) (hvt : (v : Int) ≠ t) (hin : inB inner v = true) (hn : nearB E s v = true)
    (h' : PathIs V E v t inner Y k) : k = 0 ∧ (0 < Y.length → Z.length ≤ Y.length + 1) := by
  obtain ⟨hv, h1, h2, h3, h4, hc⟩ := pathIs_valid h
  obtain rfl := pathIs_code h' hv (by omega) h2 hvV h4
  refine ⟨rfl, fun hY => ?_⟩
  obtain ⟨_, _, _, _, _, hy⟩ := pathIs_valid h'
  obtain ⟨m, rfl⟩ := Int.eq_ofNat_of_zero_le h1
  obtain ⟨n, rfl⟩ := Int.eq_ofNat_of_zero_le h2
  rw [inB_nat] at hin
  have ha := (nearB_iff E m v).1 hn
  rcases hc with ⟨e, rfl⟩ | ⟨e, ⟨rfl, _⟩ | hb⟩
  · simp
  · simp
  · rcases hy with ⟨e', _⟩ | ⟨_, ⟨rfl, _⟩ | hb'⟩
    · exact absurd e' hvt
    · simp at hY
    · simp only [Int.toNat_natCast] at hb hb'
      exact beside (by omega) hb hb' hin ha
end Go.Proofs.YtbgbjodehbcgiaaDoor
