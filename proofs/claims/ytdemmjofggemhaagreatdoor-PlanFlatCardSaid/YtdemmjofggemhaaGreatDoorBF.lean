/- Several texts in one: Rep JtW2 JtW3 LJBuilt Cover Parts15 ClassLaw JtRoot R15c R15d. -/
import Derived.Test.YtdemmjofggemhaaGreatDoorBA
import Derived.Deep.RegionLaw
import Derived.IntWalk
import Derived.Test.YtdemmjofggemhaaGreatDoorBD
import Derived.Test.YtdemmjofggemhaaGreatDoorBB
import Derived.Test.YtdemmjofggemhaaGreatDoorBC
import Derived.Test.YtdemmjofggemhaaGreatDoorBE
import Derived.StillTailTactics
import Derived.Laws.Cover3
/- slices.Repeat of one number, for few. -/
namespace Go.Proofs.YtdemmjofggemhaaGreatDoor
open Go.RowKit

end Go.Proofs.YtdemmjofggemhaaGreatDoor

/- The contract of jointree.Build. -/
namespace Go.Proofs.YtdemmjofggemhaaGreatDoor
open Go.RowKit

attribute [local go_sem ↓] uz_and uz_or uz_andNot uz_and_one uz_shr uz_shl_one uz_shl uz_sub uz_sub_one uz_add uz_beq_zero uz_bne_zero uz_beq uz_bne uz_beq_one

end Go.Proofs.YtdemmjofggemhaaGreatDoor

/- The contract of osierlaw16.awake. -/
namespace Go.Proofs.YtdemmjofggemhaaGreatDoor
open Go.RowKit

attribute [local go_sem ↓] uz_and uz_or uz_andNot uz_and_one uz_shr uz_shl_one uz_shl uz_sub uz_sub_one uz_add uz_beq_zero uz_bne_zero uz_beq uz_bne uz_beq_one

end Go.Proofs.YtdemmjofggemhaaGreatDoor

/- The walk of osierlaw16.JointreeBuilt. -/
namespace Go.Proofs.YtdemmjofggemhaaGreatDoor
open Go.RowKit

end Go.Proofs.YtdemmjofggemhaaGreatDoor

/- The contract of osierref14.All; a graph with an edge that has all vertices is acyclic. -/
namespace Go.Proofs.YtdemmjofggemhaaGreatDoor
open Go.RowKit

attribute [local go_sem ↓] uz_and uz_or uz_andNot uz_and_one uz_shr uz_shl_one uz_shl uz_sub uz_sub_one uz_add uz_beq_zero uz_bne_zero uz_beq uz_bne uz_beq_one

/-! ### One edge that has all vertices -/
theorem ed_app (E : List (BitVec 32)) (x : BitVec 32) (i : Nat) : ed (E ++ [x]) i = if i < E.length then ed E i else if i = E.length then x else 0#32 := by
  unfold ed
  by_cases h : i < E.length
  · rw [if_pos h]; simp [List.getD, List.getElem?_append_left h]
  · rw [if_neg h]
    by_cases h2 : i = E.length
    · subst h2; simp [List.getD]
    · rw [if_neg h2]
      simp only [List.getD]
      rw [List.getElem?_eq_none (by simp; omega)]; rfl
end Go.Proofs.YtdemmjofggemhaaGreatDoor

/- A join tree stays one where vertices are taken out, or a part of an edge comes to it: the plain law of EarsParts. No program in sight. -/
namespace Go.Proofs.YtdemmjofggemhaaGreatDoor

theorem outB_and {V : Int} {e : BitVec 32} (s : BitVec 32) (h : outB V e = false) : outB V (e &&& s) = false := by
  unfold outB at h ⊢
  rw [bne_eq_false_iff_eq] at h ⊢
  rw [eq_zero_iff] at h ⊢
  intro v hh
  rw [hv_andNot, hv_and] at hh
  exact h v ((hv_andNot _ _ _).2 ⟨hh.1.1, hh.2⟩)
theorem validB_mk {V : Int} {E : List (BitVec 32)} (h0 : 0 ≤ V) (h1 : V ≤ 30) (h2 : E.length ≤ 7) (h3 : ∀ e ∈ E, outB V e = false) : validB V E = true := by
  unfold validB
  have : E.any (outB V) = false := by
    rw [List.any_eq_false]; intro e he; rw [h3 e he]; simp
  rw [this]; simp [h0, h1, h2]
theorem validB_out {V : Int} {E : List (BitVec 32)} (h : validB V E = true) : ∀ e ∈ E, outB V e = false := fun e he => by
  simpa using List.any_eq_false.1 (validB_of h).2.2.2 e he
end Go.Proofs.YtdemmjofggemhaaGreatDoor

/- The plain law of classes: hierarchical graphs have no knot; a graph has a join tree just if it has no knot; what doesn't hang on the edges' order. No program in sight. -/
namespace Go.Proofs.YtdemmjofggemhaaGreatDoor

/-! ### Knots -/
theorem jt_iff {E : List (BitVec 32)} (h7 : E.length ≤ 7) : (∃ p, JT E p) ↔ ¬ ∃ R, Knot E R := by
  constructor
  · rintro h ⟨R, k⟩; exact knot_no_jt k h
  · intro h
    have hst := runE_Stuck (E := E) 0#32 h7
    have hr := runE_rch E 0#32
    refine (left_iff hr hst).1 ?_
    rcases Nat.lt_or_ge 1 (runE E 0#32).2.length with c | c
    · exact absurd ⟨_, stuck_knot (hr.inv (inv_begin E)) hst c⟩ h
    · exact c
theorem Knot.mem {E F R : List (BitVec 32)} (k : Knot E R) (h : ∀ a, a ∈ E ↔ a ∈ F) : Knot F R := by
  refine ⟨k.ne, k.anti, k.twice, fun a ha => ?_, fun j hj => ?_⟩
  · obtain ⟨j, hj, e⟩ := k.edge a ha
    obtain ⟨i, hi, e2⟩ := mem_ed ((h _).1 (ed_mem E j hj))
    exact ⟨i, hi, by rw [e2]; exact e⟩
  · obtain ⟨i, hi, e2⟩ := mem_ed ((h _).2 (ed_mem F j hj))
    obtain ⟨m, hm, e⟩ := k.part i hi
    exact ⟨m, hm, by rw [e2] at e; exact e⟩
/-- A part of the knot's own that comes to the graph leaves the knot. -/
theorem Knot.more {E R : List (BitVec 32)} (k : Knot E R) (x : BitVec 32) (h : ∃ i, i < R.length ∧ ∀ v, hv x v → inR R v → hv (ed R i) v) : Knot (E ++ [x]) R := by
  have hl : (E ++ [x]).length = E.length + 1 := by simp
  refine ⟨k.ne, k.anti, k.twice, fun a ha => ?_, fun j hj => ?_⟩
  · obtain ⟨j, hj, e⟩ := k.edge a ha
    exact ⟨j, by omega, by rw [ed_app, if_pos hj]; exact e⟩
  · rw [hl] at hj
    by_cases c : j < E.length
    · rw [ed_app, if_pos c]; exact k.part j c
    · rw [ed_app, if_neg c, if_pos (by omega)]; exact h
theorem jt_less {E : List (BitVec 32)} (h6 : E.length ≤ 6) (h : ∃ p, JT (E ++ [0#32]) p) : ∃ p, JT E p := by
  rw [jt_iff (by simp; omega)] at h
  rw [jt_iff (by omega)]
  rintro ⟨R, k⟩
  refine h ⟨R, k.more _ ?_⟩
  obtain ⟨v, a, ha, _⟩ := k.ne
  obtain ⟨i, hi, _⟩ := mem_ed ha
  exact ⟨i, hi, fun u hu => absurd hu (hv_zero u)⟩

/-! ### What hierarchical means -/
structure HierP (E : List (BitVec 32)) (head : BitVec 32) : Prop where
  cmp : ∀ x y, (∃ e ∈ E, hv e x ∧ hv e y) → (∀ e ∈ E, hv e x → hv e y) ∨ ∀ e ∈ E, hv e y → hv e x
  up : ∀ x y, (∃ e ∈ E, hv e x) → (∀ e ∈ E, hv e x → hv e y) → ¬ (∀ e ∈ E, hv e y → hv e x) → hv head x → hv head y
def bothX (E : List (BitVec 32)) (x y : Nat) : Bool := E.any fun e => e.getLsbD x && e.getLsbD y
def onlyX (E : List (BitVec 32)) (x y : Nat) : Bool := E.any fun e => e.getLsbD x && !e.getLsbD y
/-- By these two vertices, in this order, the graph is not hierarchical. -/
def clashB (E : List (BitVec 32)) (head : BitVec 32) (x y : Nat) : Bool :=
  (bothX E x y && onlyX E x y && onlyX E y x && decide (x < y)) || (bothX E x y && !onlyX E x y && onlyX E y x && head.getLsbD x && !head.getLsbD y)
def hierB (V : Nat) (E : List (BitVec 32)) (head : BitVec 32) : Bool := (List.range V).all fun a => (List.range V).all fun b => !clashB E head a b
theorem bothX_iff {E : List (BitVec 32)} {x y : Nat} : bothX E x y = true ↔ ∃ e ∈ E, hv e x ∧ hv e y := by
  unfold bothX hv
  simp only [List.any_eq_true, Bool.and_eq_true]
theorem onlyX_iff {E : List (BitVec 32)} {x y : Nat} : onlyX E x y = true ↔ ¬ ∀ e ∈ E, hv e x → hv e y := by
  unfold onlyX hv
  simp only [List.any_eq_true, Bool.and_eq_true, Bool.not_eq_true']
  constructor
  · rintro ⟨e, he, a, b⟩ h
    rw [h e he a] at b; cases b
  · intro h
    apply Classical.byContradiction
    intro c
    refine h fun e he a => ?_
    cases d : e.getLsbD y
    · exact absurd ⟨e, he, a, d⟩ c
    · rfl
theorem onlyX_false {E : List (BitVec 32)} {x y : Nat} : onlyX E x y = false ↔ ∀ e ∈ E, hv e x → hv e y := by
  rw [← Bool.not_eq_true, onlyX_iff, Classical.not_not]
theorem hierB_iff {V : Nat} {E : List (BitVec 32)} {head : BitVec 32} : hierB V E head = true ↔ ∀ a b, a < V → b < V → clashB E head a b = false := by
  unfold hierB
  simp only [List.all_eq_true, List.mem_range, Bool.not_eq_true']
  exact ⟨fun h a b ha hb => h a ha b hb, fun h a ha b hb => h a b ha hb⟩
theorem hierP_iff {V : Nat} {E : List (BitVec 32)} {head : BitVec 32} (hV : ∀ e ∈ E, ∀ v, hv e v → v < V) : hierB V E head = true ↔ HierP E head := by
  rw [hierB_iff]
  constructor
  · intro h
    refine ⟨fun x y hxy => ?_, fun x y hx h1 h2 hh => ?_⟩
    · obtain ⟨e, he, a, b⟩ := hxy
      apply Classical.byContradiction
      intro c
      have c1 : onlyX E x y = true := onlyX_iff.2 fun d => c (.inl d)
      have c2 : onlyX E y x = true := onlyX_iff.2 fun d => c (.inr d)
      have c3 : bothX E x y = true := bothX_iff.2 ⟨e, he, a, b⟩
      have c4 : bothX E y x = true := bothX_iff.2 ⟨e, he, b, a⟩
      rcases Nat.lt_trichotomy x y with d | d | d
      · have := h x y (hV e he x a) (hV e he y b)
        unfold clashB at this
        rw [c1, c2, c3, decide_eq_true d] at this
        cases this
      · subst d; exact c (.inl fun _ _ z => z)
      · have := h y x (hV e he y b) (hV e he x a)
        unfold clashB at this
        rw [c1, c2, c4, decide_eq_true d] at this
        cases this
    · obtain ⟨e, he, a⟩ := hx
      have b := h1 e he a
      apply Classical.byContradiction
      intro c
      have d := h x y (hV e he x a) (hV e he y b)
      unfold clashB at d
      have c0 : head.getLsbD y = false := by
        cases z : head.getLsbD y
        · rfl
        · exact absurd z c
      have c9 : head.getLsbD x = true := hh
      rw [bothX_iff.2 ⟨e, he, a, b⟩, onlyX_false.2 h1, onlyX_iff.2 h2, c9, c0] at d
      cases d
  · intro h a b _ _
    cases c : clashB E head a b
    · rfl
    · exfalso
      unfold clashB at c
      simp only [Bool.or_eq_true, Bool.and_eq_true, Bool.not_eq_true', decide_eq_true_eq] at c
      rcases c with ⟨⟨⟨c1, c2⟩, c3⟩, _⟩ | ⟨⟨⟨⟨c1, c2⟩, c3⟩, c4⟩, c5⟩
      · rcases h.cmp a b (bothX_iff.1 c1) with d | d
        · exact onlyX_iff.1 c2 d
        · exact onlyX_iff.1 c3 d
      · obtain ⟨e, he, x, _⟩ := bothX_iff.1 c1
        have := h.up a b ⟨e, he, x⟩ (onlyX_false.1 c2) (onlyX_iff.1 c3) c4
        unfold hv at this
        rw [this] at c5; cases c5
theorem HierP.mem {E F : List (BitVec 32)} {head head2 : BitVec 32} (h : HierP E head) (hm : ∀ a, a ∈ E ↔ a ∈ F) (hh : ∀ v, (∃ e ∈ E, hv e v) → (hv head v ↔ hv head2 v)) : HierP F head2 := by
  have s : ∀ x y, (∀ e ∈ F, hv e x → hv e y) ↔ ∀ e ∈ E, hv e x → hv e y := fun x y =>
    ⟨fun k e he => k e ((hm e).1 he), fun k e he => k e ((hm e).2 he)⟩
  refine ⟨fun x y ⟨e, he, a⟩ => ?_, fun x y ⟨e, he, a⟩ h1 h2 h3 => ?_⟩
  · rw [s, s]; exact h.cmp x y ⟨e, (hm e).2 he, a⟩
  · rw [s] at h1 h2
    have he2 := (hm e).2 he
    exact (hh y ⟨e, he2, h1 e he2 a⟩).1 (h.up x y ⟨e, he2, a⟩ h1 h2 ((hh x ⟨e, he2, a⟩).2 h3))
theorem HierP.none {E : List (BitVec 32)} {head : BitVec 32} (h : HierP E head) : HierP E 0#32 := ⟨h.cmp, fun x _ _ _ _ h3 => absurd h3 (hv_zero x)⟩
/-! ### The vertices that stand in edges, the extended graph -/
def covB (E : List (BitVec 32)) : BitVec 32 := orTo E E.length
theorem hv_cov (E : List (BitVec 32)) (v : Nat) : hv (covB E) v ↔ ∃ e ∈ E, hv e v := by
  unfold covB
  rw [hv_orTo]
  constructor
  · rintro ⟨i, hi, h⟩; exact ⟨_, ed_mem E i hi, h⟩
  · rintro ⟨e, he, h⟩
    obtain ⟨i, hi, rfl⟩ := mem_ed he
    exact ⟨i, hi, h⟩
def extE (E : List (BitVec 32)) (head : BitVec 32) : List (BitVec 32) := E ++ [head &&& covB E]
theorem extE_length (E : List (BitVec 32)) (head : BitVec 32) : (extE E head).length = E.length + 1 := by simp [extE]
/-! ### What is hierarchical is connex -/
theorem hier_noknot {E : List (BitVec 32)} {head : BitVec 32} (hh : HierP E head) : ¬ ∃ R, Knot (extE E head) R := by
  rintro ⟨R, k⟩
  let F := extE E head
  let c : Nat → Nat := fun u => cntB (fun j => (ed F j).getLsbD u) F.length
  have hl : F.length = E.length + 1 := extE_length E head
  have hF : ∀ j, j < E.length → ed F j = ed E j := fun j hj => by show ed (E ++ [_]) j = _; rw [ed_app, if_pos hj]
  have hH : ed F E.length = head &&& covB E := by show ed (E ++ [_]) _ = _; rw [ed_app, if_neg (Nat.lt_irrefl _), if_pos rfl]
  have hcl : ∀ u, c u ≤ F.length := fun u => cntB_le _ _
  obtain ⟨v0, h0⟩ := k.ne
  obtain ⟨u, hu, huR, hmin⟩ := exists_max (fun u => inR R u) (fun u => F.length - c u) 32 ⟨v0, by obtain ⟨a, _, h⟩ := h0; exact hv_lt h, h0⟩
  have hmin2 : ∀ w, inR R w → ¬ c w < c u := fun w hw hlt => by
    have h1 := hmin w (by obtain ⟨a, _, h⟩ := hw; exact hv_lt h) hw
    have h2 := hcl u
    have h3 : F.length - c w ≤ F.length - c u := h1
    omega
  obtain ⟨a, b, ha, hb, hab, hua, hub⟩ := k.twice u huR
  obtain ⟨i, hi, ei⟩ := k.edge _ (ed_mem R a ha)
  obtain ⟨j, hj, ej⟩ := k.edge _ (ed_mem R b hb)
  have diff : ∀ a b, a < R.length → b < R.length → a ≠ b → ∃ w, hv (ed R a) w ∧ ¬ hv (ed R b) w := fun a b ha hb hab => by
    apply Classical.byContradiction
    intro d
    exact hab (k.anti a b ha hb fun v hv1 => Classical.byContradiction fun hv2 => d ⟨v, hv1, hv2⟩)
  have less : ∀ w m, (∀ e ∈ E, hv e w → hv e u) → (hv (head &&& covB E) w → hv (head &&& covB E) u) → m < F.length → hv (ed F m) u → ¬ hv (ed F m) w → c w < c u := by
    intro w m h1 h2 hm h3 h4
    have h5 : (ed F m).getLsbD w = false := by
      cases d : (ed F m).getLsbD w
      · rfl
      · exact absurd d h4
    refine cntB_strict (p := fun j => (ed F j).getLsbD w) (q := fun j => (ed F j).getLsbD u) (j := m) h3 h5 (fun q hq hw => ?_) hm
    replace hw : hv (ed F q) w := hw
    show hv (ed F q) u
    by_cases d : q < E.length
    · rw [hF q d] at hw ⊢
      exact h1 _ (ed_mem E q d) hw
    · obtain rfl : q = E.length := by omega
      rw [hH] at hw ⊢
      exact h2 hw
  -- two edges of the graph itself
  have two : ∀ a b i j, a < R.length → b < R.length → a ≠ b → i < E.length → j < E.length → (∀ v, hv (ed R a) v ↔ hv (ed F i) v ∧ inR R v) → (∀ v, hv (ed R b) v ↔ hv (ed F j) v ∧ inR R v) → hv (ed R a) u → hv (ed R b) u → False := by
    intro a b i j ha hb hab hi hj ei ej hua hub
    obtain ⟨w, hwa, hwb⟩ := diff a b ha hb hab
    obtain ⟨hwi, hwR⟩ := (ei w).1 hwa
    have hui := ((ei u).1 hua).1
    have huj := ((ej u).1 hub).1
    have hwj : ¬ hv (ed F j) w := fun d => hwb ((ej w).2 ⟨d, hwR⟩)
    have hFj := hF j hj
    have hFi := hF i hi
    have hsub : ∀ e ∈ E, hv e w → hv e u := by
      rcases hh.cmp w u ⟨_, ed_mem E i hi, by rw [← hFi]; exact hwi, by rw [← hFi]; exact hui⟩ with d | d
      · exact d
      · exfalso
        apply hwj
        rw [hFj] at huj ⊢
        exact d _ (ed_mem E j hj) huj
    have hnot : ¬ ∀ e ∈ E, hv e u → hv e w := fun d => hwj (by rw [hFj] at huj ⊢; exact d _ (ed_mem E j hj) huj)
    refine hmin2 w hwR (less w j hsub (fun d => ?_) (by omega) huj hwj)
    rw [hv_and] at d ⊢
    refine ⟨hh.up w u ⟨_, ed_mem E i hi, by rw [← hFi]; exact hwi⟩ hsub hnot d.1, (hv_cov E u).2 ⟨_, ed_mem E i hi, by rw [← hFi]; exact hui⟩⟩
  -- one of them is the head
  have one : ∀ a b j, a < R.length → b < R.length → a ≠ b → j < E.length → (∀ v, hv (ed R a) v ↔ hv (ed F E.length) v ∧ inR R v) → (∀ v, hv (ed R b) v ↔ hv (ed F j) v ∧ inR R v) → hv (ed R a) u → hv (ed R b) u → False := by
    intro a b j ha hb hab hj ei ej hua hub
    obtain ⟨w, hwb, hwa⟩ := diff b a hb ha (Ne.symm hab)
    obtain ⟨hwj, hwR⟩ := (ej w).1 hwb
    have huj := ((ej u).1 hub).1
    have huh := ((ei u).1 hua).1
    have hwh : ¬ hv (ed F E.length) w := fun d => hwa ((ei w).2 ⟨d, hwR⟩)
    rw [hF j hj] at hwj huj
    rcases Classical.em (∀ e ∈ E, hv e w → hv e u) with d | d
    · exact hmin2 w hwR (less w E.length d (fun z => absurd (by rw [hH]; exact z) hwh) (by omega) huh hwh)
    · rcases hh.cmp u w ⟨_, ed_mem E j hj, huj, hwj⟩ with z | z
      · apply hwh
        rw [hH, hv_and] at huh ⊢
        exact ⟨hh.up u w ⟨_, ed_mem E j hj, huj⟩ z d huh.1, (hv_cov E w).2 ⟨_, ed_mem E j hj, hwj⟩⟩
      · exact d z
  have hi' : i < E.length + 1 := by rw [← hl]; exact hi
  have hj' : j < E.length + 1 := by rw [← hl]; exact hj
  rcases Nat.lt_or_ge i E.length with c1 | c1
  · rcases Nat.lt_or_ge j E.length with c2 | c2
    · exact two a b i j ha hb hab c1 c2 ei ej hua hub
    · obtain rfl : j = E.length := by omega
      exact one b a i hb ha (Ne.symm hab) c1 ej ei hub hua
  · obtain rfl : i = E.length := by omega
    rcases Nat.lt_or_ge j E.length with c2 | c2
    · exact one a b j ha hb hab c2 ei ej hua hub
    · obtain rfl : j = E.length := by omega
      refine hab (k.anti a b ha hb fun v hh => ?_)
      rw [ej, ← ei]; exact hh
theorem hier_connex {E : List (BitVec 32)} {head : BitVec 32} (h6 : E.length ≤ 6) (hh : HierP E head) : (∃ p, JT (extE E head) p) ∧ ∃ p, JT E p := by
  refine ⟨(jt_iff (by rw [extE_length]; omega)).2 (hier_noknot hh), jt_less h6 ?_⟩
  have := (jt_iff (E := extE E 0#32) (by rw [extE_length]; omega)).2 (hier_noknot hh.none)
  unfold extE at this
  rwa [BitVec.zero_and] at this
end Go.Proofs.YtdemmjofggemhaaGreatDoor

/- The contracts of slices.Clone over numbers and words, of jointree.Reroot and of osierref16.Reroot. -/
namespace Go.Proofs.YtdemmjofggemhaaGreatDoor
open Go.RowKit

attribute [local go_sem ↓] uz_and uz_or uz_andNot uz_and_one uz_shr uz_shl_one uz_shl uz_sub uz_sub_one uz_add uz_beq_zero uz_bne_zero uz_beq uz_bne uz_beq_one

theorem empty_own (w : World) (e : TypeId) : (w.alloc (.cells #[] e)).ownsRow w.heap.size e 1 (.slice (some ⟨w.heap.size, 0, none⟩) 0 0) 0 [] :=
  ⟨rfl, .inr ⟨w.heap.size, 0, #[], rfl, Nat.le_refl _, heap_alloc_new w _, Nat.le_refl _, by unfold maxLen; omega, rfl, rfl⟩⟩
theorem Rd.news {w : World} {B : Nat} {ad : Addr} {xs : List Value} (h : Rd w B (some ad) xs) : ∀ j u, xs[j]? = some u → w.cell? (ad.add j) = some u := by
  intro j u hj
  obtain ⟨hj', rfl⟩ := List.getElem?_eq_some_iff.1 hj
  obtain ⟨ad', e, _, hc⟩ := h j hj'
  injection e with e
  subst e
  exact hc
end Go.Proofs.YtdemmjofggemhaaGreatDoor

/- The contracts of osierref15.Run, Sets, Rest. -/
namespace Go.Proofs.YtdemmjofggemhaaGreatDoor
open Go.RowKit

attribute [local go_sem ↓] uz_and uz_or uz_andNot uz_and_one uz_shr uz_shl_one uz_shl uz_sub uz_sub_one uz_add uz_beq_zero uz_bne_zero uz_beq uz_bne uz_beq_one

/-! ### Sets -/
end Go.Proofs.YtdemmjofggemhaaGreatDoor

/- The contracts of osierref15.Rest and osierref16.Build. -/
namespace Go.Proofs.YtdemmjofggemhaaGreatDoor
open Go.RowKit

attribute [local go_sem ↓] uz_and uz_or uz_andNot uz_and_one uz_shr uz_shl_one uz_shl uz_sub uz_sub_one uz_add uz_beq_zero uz_bne_zero uz_beq uz_bne uz_beq_one

end Go.Proofs.YtdemmjofggemhaaGreatDoor
