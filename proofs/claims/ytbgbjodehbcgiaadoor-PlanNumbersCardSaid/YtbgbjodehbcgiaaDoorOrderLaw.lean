/- The list of a tree's edges, each behind its parent and right ahead of what hangs below it. No program in sight. -/
import Derived.Test.YtbgbjodehbcgiaaDoorBB
namespace Go.Proofs.YtbgbjodehbcgiaaDoor

def preF (n : Nat) (p : Nat → Int) : Nat → Int → List Nat
  | 0, _ => []
  | f + 1, a => (List.range n).flatMap fun i => if p i = a then i :: preF n p f (i : Int) else []
/-- The first k rows of it. -/
def preTo (n : Nat) (p : Nat → Int) (f : Nat) (a : Int) (k : Nat) : List Nat := (List.range k).flatMap fun i => if p i = a then i :: preF n p f (i : Int) else []
theorem preF_succ (n : Nat) (p : Nat → Int) (f : Nat) (a : Int) : preF n p (f + 1) a = preTo n p f a n := rfl
theorem preTo_zero (n : Nat) (p : Nat → Int) (f : Nat) (a : Int) : preTo n p f a 0 = [] := rfl
theorem preTo_t {n : Nat} {p : Nat → Int} {f : Nat} {a : Int} {k : Nat} (h : p k = a) : preTo n p f a (k + 1) = preTo n p f a k ++ k :: preF n p f (k : Int) := by
  unfold preTo; rw [List.range_succ, List.flatMap_append]; simp [h]
theorem preTo_f {n : Nat} {p : Nat → Int} {f : Nat} {a : Int} {k : Nat} (h : p k ≠ a) : preTo n p f a (k + 1) = preTo n p f a k := by
  unfold preTo; rw [List.range_succ, List.flatMap_append]; simp [h]
/-- The fuel is enough. -/
def Deep (n : Nat) (d : Nat → Nat) (m : Nat) (a : Int) : Prop := (a = -1 ∧ n + 1 < m) ∨ (0 ≤ a ∧ a < n ∧ n - d a.toNat < m)
theorem Deep.child {n : Nat} {p : Nat → Int} {d : Nat → Nat} {m : Nat} {a : Int} (hd : ∀ i, i < n → 0 ≤ p i → d (p i).toNat < d i) (hlt : ∀ i, i < n → d i < n) (h : Deep n d (m + 1) a) {i : Nat} (hi : i < n) (hp : p i = a) : Deep n d m (i : Int) := by
  right
  rw [Int.toNat_natCast]
  have h1 := hlt i hi
  rcases h with ⟨e, h⟩ | ⟨e1, e2, h⟩
  · exact ⟨by omega, by omega, by omega⟩
  · have h2 := hd i hi (by omega)
    rw [hp] at h2
    exact ⟨by omega, by omega, by omega⟩
theorem Deep.pos {n : Nat} {d : Nat → Nat} {a : Int} (h : Deep n d 0 a) : False := by
  rcases h with ⟨_, h⟩ | ⟨_, _, h⟩ <;> omega
theorem mem_pre {n : Nat} {p : Nat → Int} {f : Nat} {a : Int} {x : Nat} : x ∈ preF n p (f + 1) a ↔ ∃ k, k < n ∧ p k = a ∧ (x = k ∨ x ∈ preF n p f (k : Int)) := by
  show x ∈ (List.range n).flatMap _ ↔ _
  rw [List.mem_flatMap]
  constructor
  · rintro ⟨k, hk, h⟩
    split at h
    · next c => exact ⟨k, List.mem_range.1 hk, c, List.mem_cons.1 h⟩
    · cases h
  · rintro ⟨k, hk, c, h⟩
    exact ⟨k, List.mem_range.2 hk, by rw [if_pos c]; exact List.mem_cons.2 h⟩
theorem pre_lt {n : Nat} {p : Nat → Int} : ∀ {f : Nat} {a : Int} {x : Nat}, x ∈ preF n p f a → x < n
  | 0, _, _, h => by cases h
  | f + 1, a, x, h => by
    obtain ⟨k, hk, _, h⟩ := mem_pre.1 h
    rcases h with rfl | h
    · exact hk
    · exact pre_lt h
/-- What stands in the list below a hangs below a. -/
theorem pre_way {n : Nat} {p : Nat → Int} (h : Tree n p) : ∀ {f : Nat} {a x : Nat}, a < n → x ∈ preF n p f (a : Int) → a ∈ way n p x ∧ x ≠ a
  | 0, _, _, _, hx => by cases hx
  | f + 1, a, x, ha, hx => by
    obtain ⟨k, hk, hp, hx⟩ := mem_pre.1 hx
    have hak : a ∈ way n p k := (h.mem_way hk).2 (.inr ⟨by omega, by rw [hp, Int.toNat_natCast]; exact h.way_self ha⟩)
    obtain ⟨d, hd⟩ := h.rank
    have h1 := hd k hk (by omega)
    rw [hp, Int.toNat_natCast] at h1
    rcases hx with rfl | hx
    · exact ⟨hak, fun e => by rw [e] at h1; omega⟩
    · have hxl := pre_lt hx
      obtain ⟨h2, h3⟩ := pre_way h hk hx
      refine ⟨h.way_trans x hxl k a h2 hak, fun e => ?_⟩
      subst e
      exact h3 (h.way_anti hk hxl hak h2)
theorem pre_step {n : Nat} {p : Nat → Int} (h : Tree n p) {d : Nat → Nat} (hlt : ∀ i, i < n → d i < n) (hd : ∀ i, i < n → 0 ≤ p i → d (p i).toNat < d i) : ∀ {f : Nat} {a : Int} {x c : Nat}, Deep n d f a → x ∈ preF n p f a → c < n → p c = (x : Int) → c ∈ preF n p f a
  | 0, _, _, _, hf, _, _, _ => hf.pos.elim
  | f + 1, a, x, c, hf, hx, hc, hp => by
    obtain ⟨k, hk, hpk, hx⟩ := mem_pre.1 hx
    have hfk := hf.child hd hlt hk hpk
    refine mem_pre.2 ⟨k, hk, hpk, .inr ?_⟩
    rcases hx with rfl | hx
    · cases f with
      | zero => exact hfk.pos.elim
      | succ f => exact mem_pre.2 ⟨c, hc, hp, .inl rfl⟩
    · exact pre_step h hlt hd hfk hx hc hp
theorem pre_nodup {n : Nat} {p : Nat → Int} (h : Tree n p) : ∀ (f : Nat) (a : Int), (preF n p f a).Nodup
  | 0, _ => List.nodup_nil
  | f + 1, a => by
    obtain ⟨d, hd⟩ := h.rank
    have key : ∀ k, k ≤ n → (preTo n p f a k).Nodup ∧ ∀ x, x ∈ preTo n p f a k → ∃ j, j < k ∧ p j = a ∧ j ∈ way n p x ∧ x < n := by
      intro k
      induction k with
      | zero => intro _; exact ⟨List.nodup_nil, fun x hx => by cases hx⟩
      | succ k ih =>
        intro hk
        obtain ⟨i1, i2⟩ := ih (by omega)
        by_cases c : p k = a
        · rw [preTo_t c]
          have hkn : k < n := by omega
          have own : ∀ x, x ∈ k :: preF n p f (k : Int) → k ∈ way n p x ∧ x < n := by
            intro x hx
            rcases List.mem_cons.1 hx with rfl | hx
            · exact ⟨h.way_self hkn, hkn⟩
            · exact ⟨(pre_way h hkn hx).1, pre_lt hx⟩
          refine ⟨List.nodup_append.2 ⟨i1, List.nodup_cons.2 ⟨fun hx => (pre_way h hkn hx).2 rfl, pre_nodup h f _⟩, fun x hx y hy e => ?_⟩, fun x hx => ?_⟩
          · subst e
            obtain ⟨j, hj, hpj, hjw, hxn⟩ := i2 x hx
            obtain ⟨hkw, _⟩ := own x hy
            have up : ∀ u w, u < n → w < n → p u = a → p w = a → u ∈ way n p w → u = w := by
              intro u w hu hw pu pw huw
              rcases (h.mem_way hw).1 huw with e | ⟨e1, e2⟩
              · exact e
              · exfalso
                have h1 := hd u hu (by omega)
                have h2 := (h.rng w hw).2
                rcases h.way_rank hd _ (by omega) _ e2 with e3 | e3
                · rw [pw, ← pu] at e3; rw [← e3] at h1; omega
                · rw [pw, ← pu] at e3; omega
            rcases h.way_comp x hxn j k hjw hkw with e | e
            · have := up k j hkn (by omega) c hpj e; omega
            · have := up j k (by omega) hkn hpj c e; omega
          · rcases List.mem_append.1 hx with hx | hx
            · obtain ⟨j, hj, r⟩ := i2 x hx
              exact ⟨j, by omega, r⟩
            · obtain ⟨o1, o2⟩ := own x hx
              exact ⟨k, by omega, c, o1, o2⟩
        · rw [preTo_f c]
          exact ⟨i1, fun x hx => by obtain ⟨j, hj, r⟩ := i2 x hx; exact ⟨j, by omega, r⟩⟩
    exact (key n (Nat.le_refl _)).1
/-! ### Each behind the one ahead of it, or behind one above that -/
def Dn (n : Nat) (p : Nat → Int) : Nat → List Nat → Prop
  | _, [] => True
  | y, x :: l => (∃ j : Nat, p x = j ∧ j ∈ way n p y) ∧ Dn n p x l
def lastO : Nat → List Nat → Nat
  | y, [] => y
  | _, x :: l => lastO x l
theorem Dn_append {n : Nat} {p : Nat → Int} : ∀ {y : Nat} {l m : List Nat}, Dn n p y l → Dn n p (lastO y l) m → Dn n p y (l ++ m)
  | _, [], _, _, h => h
  | _, _ :: _, _, h, k => ⟨h.1, Dn_append h.2 k⟩
theorem lastO_append : ∀ (y : Nat) (l m : List Nat), lastO y (l ++ m) = lastO (lastO y l) m
  | _, [], _ => rfl
  | _, x :: l, m => lastO_append x l m
theorem pre_dn {n : Nat} {p : Nat → Int} (h : Tree n p) : ∀ {f : Nat} {a y : Nat}, a < n → y < n → a ∈ way n p y → Dn n p y (preF n p f (a : Int)) ∧ a ∈ way n p (lastO y (preF n p f (a : Int))) ∧ lastO y (preF n p f (a : Int)) < n
  | 0, a, y, _, hyn, hy => ⟨trivial, hy, hyn⟩
  | f + 1, a, y, ha, hyn, hy => by
    have key : ∀ k, k ≤ n → Dn n p y (preTo n p f (a : Int) k) ∧ a ∈ way n p (lastO y (preTo n p f (a : Int) k)) ∧ lastO y (preTo n p f (a : Int) k) < n := by
      intro k
      induction k with
      | zero => intro _; exact ⟨trivial, hy, hyn⟩
      | succ k ih =>
        intro hk
        obtain ⟨i1, i2, i3⟩ := ih (by omega)
        by_cases c : p k = a
        · have hkn : k < n := by omega
          obtain ⟨j1, j2, j3⟩ := pre_dn h (f := f) hkn hkn (h.way_self hkn)
          have hak : a ∈ way n p k := (h.mem_way hkn).2 (.inr ⟨by omega, by rw [c, Int.toNat_natCast]; exact h.way_self ha⟩)
          rw [preTo_t c, lastO_append]
          exact ⟨Dn_append i1 ⟨⟨a, c, i2⟩, j1⟩, h.way_trans _ j3 k a j2 hak, j3⟩
        · rw [preTo_f c]; exact ⟨i1, i2, i3⟩
    exact key n (Nat.le_refl _)
/-- The order. -/
def ordL (n : Nat) (p : Nat → Int) : List Nat := preF n p (n + 2) (-1)
theorem ord_root {n : Nat} {p : Nat → Int} (h : Tree n p) (hn : 0 < n) : ∃ r, r < n ∧ p r = -1 ∧ ordL n p = r :: preF n p (n + 1) (r : Int) := by
  obtain ⟨r, hr, hp⟩ := h.root hn
  refine ⟨r, hr, hp, ?_⟩
  show preTo n p (n + 1) (-1) n = _
  have key : ∀ k, k ≤ n → preTo n p (n + 1) (-1) k = if r < k then r :: preF n p (n + 1) (r : Int) else [] := by
    intro k
    induction k with
    | zero => intro _; rfl
    | succ k ih =>
      intro hk
      by_cases c : p k = -1
      · obtain rfl := h.one k r (by omega) hr c hp
        rw [preTo_t c, ih (by omega), if_neg (by omega), if_pos (by omega)]; rfl
      · rw [preTo_f c, ih (by omega)]
        have hrk : r ≠ k := fun e => c (by rw [← e]; exact hp)
        by_cases d : r < k
        · rw [if_pos d, if_pos (by omega)]
        · rw [if_neg d, if_neg (by omega)]
  rw [key n (Nat.le_refl _), if_pos hr]
theorem ord_all {n : Nat} {p : Nat → Int} (h : Tree n p) : ∀ x, x < n → x ∈ ordL n p := by
  obtain ⟨d, hlt, hd⟩ := h.low
  have hf : Deep n d (n + 2) (-1) := .inl ⟨rfl, by omega⟩
  refine h.way_ind (fun i hi h0 => ?_) fun i hi h0 hj ih => ?_
  · exact mem_pre.2 ⟨i, hi, h0, .inl rfl⟩
  · exact pre_step h hlt hd hf ih hi (by omega)
theorem nodup_len : ∀ (n : Nat) {l : List Nat}, l.Nodup → (∀ x ∈ l, x < n) → l.length ≤ n
  | 0, l, _, h => by
    cases l with
    | nil => exact Nat.le_refl _
    | cons a l => exact absurd (h a List.mem_cons_self) (by omega)
  | n + 1, l, hn, h => by
    have h1 := nodup_len n (l := l.filter (· != n)) (hn.filter _) fun x hx => by
      have h2 := List.mem_filter.1 hx
      have := h x h2.1
      have : x ≠ n := by simpa using h2.2
      omega
    have h2 : l.length ≤ (l.filter (· != n)).length + 1 := by
      clear h h1
      induction l with
      | nil => simp
      | cons a l ih =>
        have hn' := List.nodup_cons.1 hn
        by_cases c : a = n
        · subst c
          have e : l.filter (· != a) = l := by
            rw [List.filter_eq_self]
            intro x hx
            have : x ≠ a := fun e => hn'.1 (by rw [← e]; exact hx)
            simpa using this
          rw [List.filter_cons_of_neg (by simp), e]; simp
        · rw [List.filter_cons_of_pos (by simpa using c)]
          have := ih hn'.2
          simp; omega
    omega
theorem ord_len {n : Nat} {p : Nat → Int} (h : Tree n p) : (ordL n p).length = n := by
  have h1 := nodup_len n (pre_nodup h (n + 2) (-1)) fun x hx => pre_lt hx
  have h2 : n ≤ (ordL n p).length := by
    have := nodup_len2 n (ordL n p) (ord_all h)
    exact this
  exact Nat.le_antisymm h1 h2
where
  nodup_len2 : ∀ (n : Nat) (l : List Nat), (∀ x, x < n → x ∈ l) → n ≤ l.length
    | 0, _, _ => Nat.zero_le _
    | n + 1, l, h => by
      have h1 := nodup_len2 n (l.erase n) fun x hx => (List.mem_erase_of_ne (by omega)).2 (h x (by omega))
      have h2 := List.length_erase_of_mem (h n (by omega))
      have h3 : 0 < l.length := List.length_pos_of_mem (h n (by omega))
      omega
/-- What Order answers. -/
def OrderIs (P : List Int) (Z : List Nat) (code : Int) : Prop :=
  (treeB P = false ∧ Z = [] ∧ code = 160) ∨ (treeB P = true ∧ Z = ordL P.length (pz P) ∧ code = 0)
theorem orderIs_uniq {P : List Int} {Z Y : List Nat} {a b : Int} (h : OrderIs P Z a) (k : OrderIs P Y b) : Z = Y ∧ a = b := by
  rcases h with ⟨a1, a2, a3⟩ | ⟨a1, a2, a3⟩ <;> rcases k with ⟨b1, b2, b3⟩ | ⟨b1, b2, b3⟩ <;>
  first
    | (rw [a1] at b1; cases b1; done)
    | exact ⟨a2.trans b2.symm, a3.trans b3.symm⟩
theorem orderIs_len {P : List Int} {Z : List Nat} {a : Int} (h : OrderIs P Z a) : Z.length ≤ 7 := by
  rcases h with ⟨_, rfl, _⟩ | ⟨a1, rfl, _⟩
  · simp
  · have h1 := (treeB_iff P).1 a1
    rw [ord_len h1.2]; exact h1.1
end Go.Proofs.YtbgbjodehbcgiaaDoor
