/- The plain law of ClassifyPaths and ClassifyShown: the least of all free paths, pair by pair; there is one where the graph is acyclic and the extended one is not. No program in sight. -/
import Derived.Test.YtbgbjodehbcgiaaDoorBP
import Derived.Test.YtbgbjodehbcgiaaDoorBH
import Derived.Test.YtbgbjodehbcgiaaDoorFreeLaw
namespace Go.Proofs.YtbgbjodehbcgiaaDoor

/-! ### There is always an answer -/
theorem mid_exists {E : List (BitVec 32)} {src dst V : Nat} {inner inn : BitVec 32} {r v : Nat} {b : Nat → List Nat} (hm : Mid E src dst V inner r b v 0) (_h : Given E src dst V inner inn) : ∀ w, w ≤ V → ∃ b, Mid E src dst V inner r b v w
  | 0, _ => ⟨b, hm⟩
  | w + 1, hw => by
    obtain ⟨b, k⟩ := mid_exists hm _h w (by omega)
    by_cases hc : v = dst ∨ b w = [] ∨ ¬ adj E v w ∨ ¬ okV src dst inner w
    · exact ⟨b, k.skip (by omega) hc⟩
    · refine ⟨_, k.better (by omega) (fun e => hc (.inl e)) (fun e => hc (.inr (.inl e))) ?_ ?_⟩
      · exact Classical.byContradiction fun e => hc (.inr (.inr (.inl e)))
      · exact Classical.byContradiction fun e => hc (.inr (.inr (.inr e)))
theorem row_exists {E : List (BitVec 32)} {src dst V : Nat} {inner inn : BitVec 32} {r : Nat} {b : Nat → List Nat} (hm : Bst E src dst V inner r b) (h : Given E src dst V inner inn) : ∀ v, v ≤ V → ∃ b, Mid E src dst V inner r b v 0
  | 0, _ => ⟨b, hm.mid⟩
  | v + 1, hv => by
    obtain ⟨b1, k1⟩ := row_exists hm h v (by omega)
    obtain ⟨b2, k2⟩ := mid_exists k1 h V (Nat.le_refl _)
    exact ⟨b2, k2.next h (by omega)⟩
theorem bst_exists {E : List (BitVec 32)} {src dst V : Nat} {inner inn : BitVec 32} (h : Given E src dst V inner inn) (hd : dst < V) : ∀ r, ∃ b, Bst E src dst V inner r b
  | 0 => ⟨_, Bst.start hd⟩
  | r + 1 => by
    obtain ⟨b, k⟩ := bst_exists h hd r
    obtain ⟨b2, k2⟩ := row_exists k h V (Nat.le_refl _)
    exact ⟨b2, k2.end_⟩
theorem pathIs_exists {V : Int} {E : List (BitVec 32)} {x y : Nat} (inner : BitVec 32) (hv : validB V E = true) (hx : (x : Int) < V) (hy : (y : Int) < V) (hne : x ≠ y) : ∃ Z, PathIs V E x y inner Z 0 := by
  have hg := given_of (inner := inner) hv hx hy hne
  obtain ⟨b, k⟩ := bst_exists hg (by omega) V.toNat
  refine ⟨b x, .inr (.inr (.inr ⟨hv, by omega, by omega, hx, hy, by omega, rfl, ?_⟩))⟩
  simp only [Int.toNat_natCast]
  exact k.best hg

/-- The least of the shortest paths between two vertices of the head, over vertices that are not in it. -/
noncomputable def pthC (V : Int) (E : List (BitVec 32)) (h : BitVec 32) (x y : Nat) : List Nat := Classical.epsilon fun Z => PathIs V E x y (~~~h) Z 0
theorem pthC_eq {V : Int} {E : List (BitVec 32)} {h : BitVec 32} {x y : Nat} {Z : List Nat} (k : PathIs V E x y (~~~h) Z 0) : pthC V E h x y = Z :=
  (pathIs_uniq (Classical.epsilon_spec (p := fun Z => PathIs V E x y (~~~h) Z 0) ⟨Z, k⟩) k).1
theorem pthC_is {V : Int} {E : List (BitVec 32)} (h : BitVec 32) {x y : Nat} (hv : validB V E = true) (hx : (x : Int) < V) (hy : (y : Int) < V) (hne : x ≠ y) : PathIs V E x y (~~~h) (pthC V E h x y) 0 :=
  Classical.epsilon_spec (p := fun Z => PathIs V E x y (~~~h) Z 0) (pathIs_exists _ hv hx hy hne)

/-! ### The look at all pairs -/
def candB (h : BitVec 32) (f : Nat → Nat → List Nat) (x y : Nat) : Bool := h.getLsbD x && h.getLsbD y && decide (3 ≤ (f x y).length)
def stepP (h : BitVec 32) (f : Nat → Nat → List Nat) (x : Nat) (b : List Nat) (y : Nat) : List Nat := if candB h f x y = true then leastL b (f x y) else b
/-- The best behind the pairs of x with all up to k. -/
def rowP (h : BitVec 32) (f : Nat → Nat → List Nat) (x : Nat) (b : List Nat) : Nat → List Nat
  | 0 => b
  | k + 1 => if x < k then stepP h f x (rowP h f x b k) k else b
/-- The best behind all pairs of the vertices below k. -/
def allP (h : BitVec 32) (f : Nat → Nat → List Nat) (V : Nat) : Nat → List Nat
  | 0 => []
  | k + 1 => rowP h f k (allP h f V k) V
theorem rowP_start (h : BitVec 32) (f : Nat → Nat → List Nat) (x : Nat) (b : List Nat) : rowP h f x b (x + 1) = b := by
  unfold rowP; rw [if_neg (Nat.lt_irrefl _)]
theorem rowP_short (h : BitVec 32) (f : Nat → Nat → List Nat) (x : Nat) (b : List Nat) {k : Nat} (hk : k ≤ x + 1) : rowP h f x b k = b := by
  cases k with
  | zero => rfl
  | succ k => unfold rowP; rw [if_neg (by omega)]
theorem rowP_next (h : BitVec 32) (f : Nat → Nat → List Nat) (x : Nat) (b : List Nat) {k : Nat} (hk : x < k) : rowP h f x b (k + 1) = stepP h f x (rowP h f x b k) k := by
  conv => lhs; unfold rowP
  rw [if_pos hk]
theorem leastL_or (a b : List Nat) : leastL a b = a ∨ leastL a b = b := by unfold leastL; split <;> simp
theorem rowP_mem {h : BitVec 32} {f : Nat → Nat → List Nat} {x : Nat} {b : List Nat} : ∀ k, rowP h f x b k = b ∨ ∃ y, x < y ∧ y < k ∧ candB h f x y = true ∧ rowP h f x b k = f x y
  | 0 => .inl rfl
  | k + 1 => by
    by_cases hk : x < k
    · rw [rowP_next h f x b hk]
      have ih : rowP h f x b k = b ∨ ∃ y, x < y ∧ y < k + 1 ∧ candB h f x y = true ∧ rowP h f x b k = f x y := by
        rcases rowP_mem (h := h) (f := f) (x := x) (b := b) k with e | ⟨y, h1, h2, h3, h4⟩
        · exact .inl e
        · exact .inr ⟨y, h1, by omega, h3, h4⟩
      unfold stepP
      split
      · rename_i hc
        rcases leastL_or (rowP h f x b k) (f x k) with e | e
        · rw [e]; exact ih
        · exact .inr ⟨k, hk, by omega, hc, e⟩
      · exact ih
    · exact .inl (rowP_short h f x b (by omega))
theorem stepP_ne {h : BitVec 32} {f : Nat → Nat → List Nat} {x y : Nat} {b : List Nat} (hb : b ≠ []) : stepP h f x b y ≠ [] := by
  unfold stepP
  split
  · exact leastL_ne _ _ (.inl hb)
  · exact hb
theorem rowP_keep {h : BitVec 32} {f : Nat → Nat → List Nat} {x : Nat} {b : List Nat} (hb : b ≠ []) : ∀ k, rowP h f x b k ≠ []
  | 0 => hb
  | k + 1 => by
    by_cases hk : x < k
    · rw [rowP_next h f x b hk]; exact stepP_ne (rowP_keep hb k)
    · rw [rowP_short h f x b (by omega)]; exact hb
theorem cand_ne {h : BitVec 32} {f : Nat → Nat → List Nat} {x y : Nat} (hc : candB h f x y = true) : f x y ≠ [] := by
  intro e
  simp [candB, e] at hc
theorem rowP_cand {h : BitVec 32} {f : Nat → Nat → List Nat} {x y : Nat} {b : List Nat} (hxy : x < y) (hc : candB h f x y = true) : ∀ k, y < k → rowP h f x b k ≠ []
  | k + 1, hk => by
    rw [rowP_next h f x b (by omega)]
    rcases Nat.lt_or_ge y k with d | d
    · exact stepP_ne (rowP_cand hxy hc k d)
    · obtain rfl : y = k := by omega
      unfold stepP
      rw [if_pos hc]
      exact leastL_ne _ _ (.inr (cand_ne hc))
theorem allP_mem {h : BitVec 32} {f : Nat → Nat → List Nat} {V : Nat} : ∀ k, allP h f V k = [] ∨ ∃ x y, x < k ∧ x < y ∧ y < V ∧ candB h f x y = true ∧ allP h f V k = f x y
  | 0 => .inl rfl
  | k + 1 => by
    unfold allP
    rcases rowP_mem (h := h) (f := f) (x := k) (b := allP h f V k) V with e | ⟨y, h1, h2, h3, h4⟩
    · rw [e]
      rcases allP_mem (h := h) (f := f) (V := V) k with e | ⟨x, y, h1, h2, h3, h4, h5⟩
      · exact .inl e
      · exact .inr ⟨x, y, by omega, h2, h3, h4, h5⟩
    · exact .inr ⟨k, y, by omega, h1, h2, h3, h4⟩
theorem allP_ne {h : BitVec 32} {f : Nat → Nat → List Nat} {V x y : Nat} (hxy : x < y) (hy : y < V) (hc : candB h f x y = true) : ∀ k, x < k → allP h f V k ≠ []
  | k + 1, hk => by
    unfold allP
    rcases Nat.lt_or_ge x k with d | d
    · exact rowP_keep (allP_ne hxy hy hc k d) V
    · obtain rfl : x = k := by omega
      exact rowP_cand hxy hc V hy

theorem cand_iff {h : BitVec 32} {f : Nat → Nat → List Nat} {x y : Nat} (hx : h.getLsbD x = true) (hy : h.getLsbD y = true) : candB h f x y = decide (3 ≤ (f x y).length) := by simp [candB, hx, hy]
theorem cand_left {h : BitVec 32} {f : Nat → Nat → List Nat} {x y : Nat} (hx : h.getLsbD x = false) : candB h f x y = false := by simp [candB, hx]
theorem cand_right {h : BitVec 32} {f : Nat → Nat → List Nat} {x y : Nat} (hy : h.getLsbD y = false) : candB h f x y = false := by simp [candB, hy]
theorem step_no {h : BitVec 32} {f : Nat → Nat → List Nat} {x y : Nat} {b : List Nat} (hc : candB h f x y = false) : stepP h f x b y = b := by simp [stepP, hc]
theorem step_take {h : BitVec 32} {f : Nat → Nat → List Nat} {x y : Nat} {b : List Nat} (hc : candB h f x y = true) (hb : b = [] ∨ lessL (f x y) b = true) : stepP h f x b y = f x y := by
  rw [stepP, if_pos hc, leastL, if_pos]
  rcases hb with hb | hb
  · exact .inl hb
  · exact .inr ⟨cand_ne hc, hb⟩
theorem step_keep {h : BitVec 32} {f : Nat → Nat → List Nat} {x y : Nat} {b : List Nat} (hc : candB h f x y = true) (hb : b ≠ []) (hl : lessL (f x y) b = false) : stepP h f x b y = b := by
  rw [stepP, if_pos hc, leastL, if_neg]
  rintro (e | ⟨_, e⟩)
  · exact hb e
  · rw [hl] at e; cases e
theorem allP_next (h : BitVec 32) (f : Nat → Nat → List Nat) (V k : Nat) : allP h f V (k + 1) = rowP h f k (allP h f V k) V := rfl

/-! ### From a free pair to a path -/
theorem hv_lt17 {s : BitVec 32} {v : Nat} (h : hv s v) : v < 32 := by
  rcases Nat.lt_or_ge v 32 with d | d
  · exact d
  · unfold hv at h; rw [BitVec.getLsbD_of_ge _ _ d] at h; cases h
theorem inner_of {h : BitVec 32} {v : Nat} (hv32 : v < 32) (hn : ¬ hv h v) : (~~~h).getLsbD v = true := by
  unfold hv at hn
  have h0 : h.getLsbD v = false := by simpa using hn
  rw [BitVec.getLsbD_not, h0, decide_eq_true hv32]; rfl
theorem lnk_isP {E : List (BitVec 32)} {h : BitVec 32} {x y c d : Nat} (hx : hv h x) (hy : hv h y) (k : Lnk E h c d) : ∀ {r : List Nat}, IsP E x y (~~~h) (d :: r) → ∃ r', IsP E x y (~~~h) (c :: r') := by
  induction k with
  | here _ => intro r hr; exact ⟨r, hr⟩
  | @step v w k hw a ih =>
    intro r hr
    by_cases e : v = w
    · subst e; exact ih hr
    · obtain ⟨ed, he, h1, h2⟩ := a
      refine ih (r := w :: r) ⟨fun z => ?_, ⟨e, ed, he, h1, h2⟩, ⟨fun z => ?_, .inr (inner_of (hv_lt17 h2) hw)⟩, hr⟩
      · subst z; exact k.out hy
      · subst z; exact hw hx
theorem FreeP.symm {E : List (BitVec 32)} {h : BitVec 32} {x y : Nat} (k : FreeP E h x y) : FreeP E h y x := by
  obtain ⟨h1, h2, h3, h4, c, d, a, b, e⟩ := k
  exact ⟨h1.symm, h3, h2, fun z => h4 z.symm, d, c, e.symm, b.symm, a.symm⟩
theorem Lnk.start {E : List (BitVec 32)} {h : BitVec 32} {c v : Nat} (r : Lnk E h c v) : ¬ hv h c := by
  induction r with
  | here hc => exact hc
  | step _ _ _ ih => exact ih
theorem free_isP {E : List (BitVec 32)} {h : BitVec 32} {x y : Nat} (k : FreeP E h x y) : ∃ r, IsP E x y (~~~h) (x :: r) := by
  obtain ⟨h1, h2, h3, _, c, d, ⟨e1, he1, a1, b1⟩, b, ⟨e2, he2, a2, b2⟩⟩ := k
  have hd := b.out
  have hc := b.start
  obtain ⟨r, hr⟩ := lnk_isP h2 h3 b (r := [y]) ⟨fun z => by subst z; exact hd h3, ⟨fun z => by subst z; exact hd h3, e2, he2, a2, b2⟩, ⟨h1.symm, .inl rfl⟩, rfl⟩
  exact ⟨c :: r, h1, ⟨fun z => by subst z; exact hc h2, e1, he1, a1, b1⟩, ⟨fun z => by subst z; exact hc h2, .inr (inner_of (hv_lt17 b1) hc)⟩, hr⟩
theorem free_cand {V : Int} {E : List (BitVec 32)} {h : BitVec 32} {x y : Nat} (hv0 : validB V E = true) (hx : (x : Int) < V) (hy : (y : Int) < V) (k : FreeP E h x y) : candB h (pthC V E h) x y = true := by
  obtain ⟨r, hr⟩ := free_isP k
  have hp := pthC_is h hv0 hx hy k.1
  have a1 : h.getLsbD x = true := k.2.1
  have a2 : h.getLsbD y = true := k.2.2.1
  rw [cand_iff a1 a2, decide_eq_true_eq]
  generalize pthC V E h x y = Z at hp ⊢
  obtain ⟨_, _, _, _, _, hc⟩ := pathIs_valid hp
  simp only [Int.toNat_natCast] at hc
  rcases hc with ⟨e, _⟩ | ⟨_, ⟨_, hn⟩ | hb⟩
  · exact absurd e (by have := k.1; omega)
  · exact absurd rfl (hn _ hr)
  · obtain ⟨b1, b2, _⟩ := hb
    match Z, b1, b2 with
    | [v], b1, b2 =>
      obtain rfl : v = x := by simpa using b2
      exact absurd b1 k.1
    | [v, u], b1, b2 =>
      obtain rfl : v = x := by simpa using b2
      obtain rfl : u = y := b1.2.2.2
      exact absurd b1.2.1.2 k.2.2.2.1
    | _ :: _ :: _ :: _, _, _ => simp

/-- A path that the look finds is free. -/
theorem cand_free {V : Int} {E : List (BitVec 32)} {h : BitVec 32} {x y : Nat} (hv0 : validB V E = true) (hxy : x < y) (hy : (y : Int) < V) (hc : candB h (pthC V E h) x y = true) : FreeIs V E h ((pthC V E h x y).map Int.ofNat) ∧ zed (pthC V E h x y) 0 = x ∧ zed (pthC V E h x y) ((pthC V E h x y).length - 1) = y := by
  have hp := pthC_is h hv0 (x := x) (y := y) (by omega) hy (by omega)
  simp only [candB, Bool.and_eq_true, decide_eq_true_eq] at hc
  obtain ⟨⟨hx1, hy1⟩, h3⟩ := hc
  generalize pthC V E h x y = Z at hp h3
  obtain ⟨p0, p1, p2, p3, p4, p5⟩ := walks_facts hp (fun e => by simp [e] at h3)
  have hz0 : zed Z 0 = x := by omega
  have hz1 : zed Z (Z.length - 1) = y := by omega
  have hpz : ∀ i, i < Z.length → pz (Z.map Int.ofNat) i = (zed Z i : Int) := fun i hi => by
    simp [pz, zed, hi]
  have hlt : ∀ i, i < Z.length → (zed Z i : Int) < V := fun i hi => by
    by_cases e : i + 1 < Z.length
    · have := p3 i e
      obtain ⟨_, d, hd, a, _⟩ := (nearB_iff E (zed Z i) (zed Z (i + 1))).1 this
      have := edge_lt hv0 d hd _ a
      omega
    · obtain rfl : i = Z.length - 1 := by omega
      rw [hz1]; exact hy
  have hst : ∀ i, i < (Z.map Int.ofNat).length → stepOk V E h (Z.map Int.ofNat) i := by
    intro i hi
    rw [List.length_map] at hi
    refine ⟨by rw [hpz i hi]; omega, by rw [hpz i hi]; exact hlt i hi, ?_, fun j hj => ?_⟩
    · rw [hpz i hi, List.length_map]
      by_cases e0 : i = 0
      · subst e0; rw [hz0, inB_nat, hx1]; rfl
      · by_cases e1 : i + 1 = Z.length
        · obtain rfl : i = Z.length - 1 := by omega
          rw [hz1, inB_nat, hy1]; simp [e0, e1]
        · have := p4 i (by omega) (by omega)
          rw [inB_nat, BitVec.getLsbD_not] at this
          simp only [Bool.and_eq_true, Bool.not_eq_true'] at this
          rw [inB_nat, this.2]; simp [e0, e1]
    · rw [hpz i hi, hpz j (by omega)]
      rcases Nat.lt_or_ge (j + 1) i with d | d
      · obtain ⟨q1, q2⟩ := p5 i j d hi
        exact ⟨by omega, by rw [q1]; simp; omega⟩
      · obtain rfl : i = j + 1 := by omega
        have q := p3 j hi
        refine ⟨fun e => ?_, by rw [q]; simp⟩
        unfold nearB at q
        simp only [Bool.and_eq_true, decide_eq_true_eq] at q
        exact q.1 e
  have h30 := sn_few (validB_of hv0).2.1 hst
  exact ⟨⟨hv0, by simpa using h3, h30, hst⟩, hz0, hz1⟩

/-- What Path answers. -/
def bestC (V : Int) (E : List (BitVec 32)) (h : BitVec 32) (Z : List Nat) : Prop := Z = allP h (pthC V E h) V.toNat V.toNat
def Path17Is (V : Int) (E : List (BitVec 32)) (head : BitVec 32) (Z : List Nat) (code : Int) : Prop :=
  ∃ (a x h : Bool) (q : Int), ClassIs V E head a x h q ∧ (((q ≠ 0 ∨ a = false ∨ x = true) ∧ Z = [] ∧ code = q) ∨ (q = 0 ∧ a = true ∧ x = false ∧ code = 0 ∧ bestC V E (head &&& covB E) Z))
theorem path17_uniq {V : Int} {E : List (BitVec 32)} {head : BitVec 32} {Z Y : List Nat} {a b : Int} (h : Path17Is V E head Z a) (k : Path17Is V E head Y b) : Z = Y ∧ a = b := by
  obtain ⟨a1, x1, h1, q1, K1, H1⟩ := h
  obtain ⟨a2, x2, h2, q2, K2, H2⟩ := k
  obtain ⟨rfl, rfl, rfl, rfl⟩ := class_uniq K1 K2
  have no : (q1 ≠ 0 ∨ a1 = false ∨ x1 = true) → q1 = 0 → a1 = true → x1 = false → False := by
    rintro (z | z | z) e1 e2 e3
    · exact z e1
    · rw [e2] at z; cases z
    · rw [e3] at z; cases z
  rcases H1 with ⟨z, rfl, rfl⟩ | ⟨e1, e2, e3, rfl, r1⟩
  · rcases H2 with ⟨_, rfl, rfl⟩ | ⟨e1, e2, e3, _⟩
    · exact ⟨rfl, rfl⟩
    · exact (no z e1 e2 e3).elim
  · rcases H2 with ⟨z, _⟩ | ⟨_, _, _, rfl, r2⟩
    · exact (no z e1 e2 e3).elim
    · exact ⟨r1.trans r2.symm, rfl⟩
theorem best_facts {V : Int} {E : List (BitVec 32)} {h : BitVec 32} {Z : List Nat} (hv0 : validB V E = true) (hb : bestC V E h Z) : Z = [] ∨ (FreeIs V E h (Z.map Int.ofNat) ∧ zed Z 0 < zed Z (Z.length - 1)) := by
  unfold bestC at hb
  rcases allP_mem (h := h) (f := pthC V E h) (V := V.toNat) V.toNat with e | ⟨x, y, h1, h2, h3, h4, h5⟩
  · exact .inl (hb.trans e)
  · obtain ⟨k1, k2, k3⟩ := cand_free hv0 h2 (by omega) h4
    rw [← h5, ← hb] at k1 k2 k3
    exact .inr ⟨k1, by omega⟩
theorem best_some {V : Int} {E : List (BitVec 32)} {head : BitVec 32} {Z : List Nat} (hv0 : validB V E = true) (h6 : E.length ≤ 6) (hj : ∃ p, JT E p) (hx : ¬ ∃ p, JT (extE E head) p) (hb : bestC V E (head &&& covB E) Z) : FreeIs V E (head &&& covB E) (Z.map Int.ofNat) ∧ zed Z 0 < zed Z (Z.length - 1) := by
  rcases best_facts hv0 hb with e | k
  · exfalso
    obtain ⟨x, y, k⟩ := free_exists h6 hj hx
    have hin : ∀ v, hv (head &&& covB E) v → (v : Int) < V := fun v hvv => by
      obtain ⟨e, he, hev⟩ := (hv_cov E v).1 ((hv_and _ _ _).1 hvv).2
      have := edge_lt hv0 e he v hev
      omega
    have key : ∀ x y, x < y → FreeP E (head &&& covB E) x y → False := fun x y hxy k => by
      have hx := hin x k.2.1
      have hy := hin y k.2.2.1
      exact allP_ne hxy (by omega) (free_cand hv0 hx hy k) V.toNat (by omega) (hb.symm.trans e)
    rcases Nat.lt_or_ge x y with d | d
    · exact key x y d k
    · exact key y x (by have := k.1; omega) k.symm
  · exact k
theorem best_len17 {V : Int} {E : List (BitVec 32)} {h : BitVec 32} {Z : List Nat} (hv0 : validB V E = true) (hb : bestC V E h Z) : Z.length ≤ 30 := by
  rcases best_facts hv0 hb with rfl | ⟨k, _⟩
  · exact Nat.zero_le _
  · simpa using k.few
end Go.Proofs.YtbgbjodehbcgiaaDoor
