/- Several texts in one: Rep JtW2 JtW3 LJBuilt Cover Parts15 ClassLaw JtRoot R15c R15d. -/
import Derived.Test.YtdemmjofggemhaaDoorBA
import Derived.Deep.RegionLaw
import Derived.IntWalk
import Derived.Test.YtdemmjofggemhaaDoorBD
import Derived.Test.YtdemmjofggemhaaDoorBB
import Derived.Test.YtdemmjofggemhaaDoorBC
import Derived.Test.YtdemmjofggemhaaDoorBE
import Derived.StillTailTactics
import Derived.Laws.Cover3
/- slices.Repeat of one number, for few. -/
namespace Go.Proofs.YtdemmjofggemhaaDoor
open Go.RowKit

end Go.Proofs.YtdemmjofggemhaaDoor

/- The contract of jointree.Build. -/
namespace Go.Proofs.YtdemmjofggemhaaDoor
open Go.RowKit

attribute [local go_sem ↓] uz_and uz_or uz_andNot uz_and_one uz_shr uz_shl_one uz_shl uz_sub uz_sub_one uz_add uz_beq_zero uz_bne_zero uz_beq uz_bne uz_beq_one

end Go.Proofs.YtdemmjofggemhaaDoor

/- The contract of osierlaw16.awake. -/
namespace Go.Proofs.YtdemmjofggemhaaDoor
open Go.RowKit

attribute [local go_sem ↓] uz_and uz_or uz_andNot uz_and_one uz_shr uz_shl_one uz_shl uz_sub uz_sub_one uz_add uz_beq_zero uz_bne_zero uz_beq uz_bne uz_beq_one

end Go.Proofs.YtdemmjofggemhaaDoor

/- The walk of osierlaw16.JointreeBuilt. -/
namespace Go.Proofs.YtdemmjofggemhaaDoor
open Go.RowKit

end Go.Proofs.YtdemmjofggemhaaDoor

/- The contract of osierref14.All; a graph with an edge that has all vertices is acyclic. -/
namespace Go.Proofs.YtdemmjofggemhaaDoor
open Go.RowKit

attribute [local go_sem ↓] uz_and uz_or uz_andNot uz_and_one uz_shr uz_shl_one uz_shl uz_sub uz_sub_one uz_add uz_beq_zero uz_bne_zero uz_beq uz_bne uz_beq_one

/-! ### One edge that has all vertices -/
theorem ed_app (E : List (BitVec 32)) (x : BitVec 32) (i : Nat) : ed (E ++ [x]) i = if i < E.length then ed E i else if i = E.length then x else 0#32 := by
  unfold ed
  by_cases h : i < E.length
  · rw [if_pos h]; simp [List.getD, List.getElem?_append_left h]
  · rw [if_neg h]
    by_cases h2 : i = E.length
    · subst h2; simp [List.getD]
    · rw [if_neg h2]
      simp only [List.getD]
      rw [List.getElem?_eq_none (by simp; omega)]; rfl
end Go.Proofs.YtdemmjofggemhaaDoor

/- A join tree stays one where vertices are taken out, or a part of an edge comes to it: the plain law of EarsParts. No program in sight. -/
namespace Go.Proofs.YtdemmjofggemhaaDoor

theorem outB_and {V : Int} {e : BitVec 32} (s : BitVec 32) (h : outB V e = false) : outB V (e &&& s) = false := by
  unfold outB at h ⊢
  rw [bne_eq_false_iff_eq] at h ⊢
  rw [eq_zero_iff] at h ⊢
  intro v hh
  rw [hv_andNot, hv_and] at hh
  exact h v ((hv_andNot _ _ _).2 ⟨hh.1.1, hh.2⟩)
theorem validB_mk {V : Int} {E : List (BitVec 32)} (h0 : 0 ≤ V) (h1 : V ≤ 30) (h2 : E.length ≤ 7) (h3 : ∀ e ∈ E, outB V e = false) : validB V E = true := by
  unfold validB
  have : E.any (outB V) = false := by
    rw [List.any_eq_false]; intro e he; rw [h3 e he]; simp
  rw [this]; simp [h0, h1, h2]
theorem validB_out {V : Int} {E : List (BitVec 32)} (h : validB V E = true) : ∀ e ∈ E, outB V e = false := fun e he => by
  simpa using List.any_eq_false.1 (validB_of h).2.2.2 e he
end Go.Proofs.YtdemmjofggemhaaDoor

/- The plain law of classes: hierarchical graphs have no knot; a graph has a join tree just if it has no knot; what doesn't hang on the edges' order. No program in sight. -/
namespace Go.Proofs.YtdemmjofggemhaaDoor

/-! ### Knots -/
theorem Knot.mem {E F R : List (BitVec 32)} (k : Knot E R) (h : ∀ a, a ∈ E ↔ a ∈ F) : Knot F R := by
  refine ⟨k.ne, k.anti, k.twice, fun a ha => ?_, fun j hj => ?_⟩
  · obtain ⟨j, hj, e⟩ := k.edge a ha
    obtain ⟨i, hi, e2⟩ := mem_ed ((h _).1 (ed_mem E j hj))
    exact ⟨i, hi, by rw [e2]; exact e⟩
  · obtain ⟨i, hi, e2⟩ := mem_ed ((h _).2 (ed_mem F j hj))
    obtain ⟨m, hm, e⟩ := k.part i hi
    exact ⟨m, hm, by rw [e2] at e; exact e⟩
/-- A part of the knot's own that comes to the graph leaves the knot. -/
theorem Knot.more {E R : List (BitVec 32)} (k : Knot E R) (x : BitVec 32) (h : ∃ i, i < R.length ∧ ∀ v, hv x v → inR R v → hv (ed R i) v) : Knot (E ++ [x]) R := by
  have hl : (E ++ [x]).length = E.length + 1 := by simp
  refine ⟨k.ne, k.anti, k.twice, fun a ha => ?_, fun j hj => ?_⟩
  · obtain ⟨j, hj, e⟩ := k.edge a ha
    exact ⟨j, by omega, by rw [ed_app, if_pos hj]; exact e⟩
  · rw [hl] at hj
    by_cases c : j < E.length
    · rw [ed_app, if_pos c]; exact k.part j c
    · rw [ed_app, if_neg c, if_pos (by omega)]; exact h
/-! ### What hierarchical means -/
structure HierP (E : List (BitVec 32)) (head : BitVec 32) : Prop where
  cmp : ∀ x y, (∃ e ∈ E, hv e x ∧ hv e y) → (∀ e ∈ E, hv e x → hv e y) ∨ ∀ e ∈ E, hv e y → hv e x
  up : ∀ x y, (∃ e ∈ E, hv e x) → (∀ e ∈ E, hv e x → hv e y) → ¬ (∀ e ∈ E, hv e y → hv e x) → hv head x → hv head y
theorem HierP.mem {E F : List (BitVec 32)} {head head2 : BitVec 32} (h : HierP E head) (hm : ∀ a, a ∈ E ↔ a ∈ F) (hh : ∀ v, (∃ e ∈ E, hv e v) → (hv head v ↔ hv head2 v)) : HierP F head2 := by
  have s : ∀ x y, (∀ e ∈ F, hv e x → hv e y) ↔ ∀ e ∈ E, hv e x → hv e y := fun x y =>
    ⟨fun k e he => k e ((hm e).1 he), fun k e he => k e ((hm e).2 he)⟩
  refine ⟨fun x y ⟨e, he, a⟩ => ?_, fun x y ⟨e, he, a⟩ h1 h2 h3 => ?_⟩
  · rw [s, s]; exact h.cmp x y ⟨e, (hm e).2 he, a⟩
  · rw [s] at h1 h2
    have he2 := (hm e).2 he
    exact (hh y ⟨e, he2, h1 e he2 a⟩).1 (h.up x y ⟨e, he2, a⟩ h1 h2 ((hh x ⟨e, he2, a⟩).2 h3))
theorem HierP.none {E : List (BitVec 32)} {head : BitVec 32} (h : HierP E head) : HierP E 0#32 := ⟨h.cmp, fun x _ _ _ _ h3 => absurd h3 (hv_zero x)⟩
theorem HierP.full {E : List (BitVec 32)} {head : BitVec 32} (h : HierP E 0#32) (hf : ∀ v, (∃ e ∈ E, hv e v) → hv head v) : HierP E head := ⟨h.cmp, fun _ y ⟨e, he, a⟩ h1 _ _ => hf y ⟨e, he, h1 e he a⟩⟩

/-! ### The vertices that stand in edges, the extended graph -/
/-! ### What is hierarchical is connex -/
end Go.Proofs.YtdemmjofggemhaaDoor

/- The contracts of slices.Clone over numbers and words, of jointree.Reroot and of osierref16.Reroot. -/
namespace Go.Proofs.YtdemmjofggemhaaDoor
open Go.RowKit

attribute [local go_sem ↓] uz_and uz_or uz_andNot uz_and_one uz_shr uz_shl_one uz_shl uz_sub uz_sub_one uz_add uz_beq_zero uz_bne_zero uz_beq uz_bne uz_beq_one

theorem empty_own (w : World) (e : TypeId) : (w.alloc (.cells #[] e)).ownsRow w.heap.size e 1 (.slice (some ⟨w.heap.size, 0, none⟩) 0 0) 0 [] :=
  ⟨rfl, .inr ⟨w.heap.size, 0, #[], rfl, Nat.le_refl _, heap_alloc_new w _, Nat.le_refl _, by unfold maxLen; omega, rfl, rfl⟩⟩
theorem Rd.news {w : World} {B : Nat} {ad : Addr} {xs : List Value} (h : Rd w B (some ad) xs) : ∀ j u, xs[j]? = some u → w.cell? (ad.add j) = some u := by
  intro j u hj
  obtain ⟨hj', rfl⟩ := List.getElem?_eq_some_iff.1 hj
  obtain ⟨ad', e, _, hc⟩ := h j hj'
  injection e with e
  subst e
  exact hc
end Go.Proofs.YtdemmjofggemhaaDoor

/- The contracts of osierref15.Run, Sets, Rest. -/
namespace Go.Proofs.YtdemmjofggemhaaDoor
open Go.RowKit

attribute [local go_sem ↓] uz_and uz_or uz_andNot uz_and_one uz_shr uz_shl_one uz_shl uz_sub uz_sub_one uz_add uz_beq_zero uz_bne_zero uz_beq uz_bne uz_beq_one

/-! ### Sets -/
end Go.Proofs.YtdemmjofggemhaaDoor

/- The contracts of osierref15.Rest and osierref16.Build. -/
namespace Go.Proofs.YtdemmjofggemhaaDoor
open Go.RowKit

attribute [local go_sem ↓] uz_and uz_or uz_andNot uz_and_one uz_shr uz_shl_one uz_shl uz_sub uz_sub_one uz_add uz_beq_zero uz_bne_zero uz_beq uz_bne uz_beq_one

end Go.Proofs.YtdemmjofggemhaaDoor
