/- A query whose variables are named anew has the same plan but for the variables' names. No program in sight. -/
import Derived.Test.YtdemmjofggemhaaDoorPPlan
namespace Go.Proofs.YtdemmjofggemhaaDoor
open Go.RowKit

def renT (f : ByteArray → ByteArray) (t : Tm) : Tm := if t.var = ByteArray.empty then t else ⟨f t.var, t.kind, t.num, t.text⟩
def renA (f : ByteArray → ByteArray) (a : Am) : Am := ⟨a.rel, a.terms.map (renT f)⟩
def renQ (f : ByteArray → ByteArray) (q : Qy) : Qy := ⟨q.name, q.head.map f, q.atoms.map (renA f)⟩
structure RenOk (f : ByteArray → ByteArray) (V : List ByteArray) : Prop where
  inj : ∀ x ∈ V, ∀ y ∈ V, f x = f y → x = y
  name : ∀ x ∈ V, nameB (f x) = true
theorem RenOk.full {f : ByteArray → ByteArray} {V : List ByteArray} (h : RenOk f V) {x : ByteArray} (hx : x ∈ V) : f x ≠ ByteArray.empty := fun c => by
  have := h.name x hx
  rw [c] at this
  exact absurd this (by decide)
section
variable {f : ByteArray → ByteArray} {V : List ByteArray}
theorem RenOk.mem (h : RenOk f V) {L : List ByteArray} (hL : ∀ x ∈ L, x ∈ V) {x : ByteArray} (hx : x ∈ V) : f x ∈ L.map f ↔ x ∈ L := by
  constructor
  · intro m
    obtain ⟨y, hy, e⟩ := List.mem_map.1 m
    rw [← h.inj y (hL y hy) x hx e]; exact hy
  · exact List.mem_map_of_mem
theorem RenOk.addS (h : RenOk f V) {out : List ByteArray} (ho : ∀ x ∈ out, x ∈ V) {v : ByteArray} (hv : v ∈ V) : addS (out.map f) (f v) = (addS out v).map f := by
  unfold Go.Proofs.YtdemmjofggemhaaDoor.addS
  by_cases c : v ∈ out
  · rw [if_pos c, if_pos ((h.mem ho hv).2 c)]
  · rw [if_neg c, if_neg (fun d => c ((h.mem ho hv).1 d)), List.map_append]; rfl
theorem renT_var {t : Tm} : (renT f t).var = if t.var = ByteArray.empty then t.var else f t.var := by
  unfold renT; split <;> rfl
theorem RenOk.addV (h : RenOk f V) {out : List ByteArray} (ho : ∀ x ∈ out, x ∈ V) {t : Tm} (ht : t.var ≠ ByteArray.empty → t.var ∈ V) : addV (out.map f) (renT f t) = (addV out t).map f := by
  rw [addV_addS, addV_addS, renT_var]
  by_cases c : t.var = ByteArray.empty
  · rw [if_pos c, if_pos c, if_pos c]
  · rw [if_neg c, if_neg c, if_neg (h.full (ht c)), h.addS ho (ht c)]
theorem RenOk.foldV (h : RenOk f V) : ∀ (ts : List Tm) {out : List ByteArray}, (∀ x ∈ out, x ∈ V) → (∀ t ∈ ts, t.var ≠ ByteArray.empty → t.var ∈ V) → (ts.map (renT f)).foldl Go.Proofs.YtdemmjofggemhaaDoor.addV (out.map f) = (ts.foldl Go.Proofs.YtdemmjofggemhaaDoor.addV out).map f
  | [], _, _, _ => rfl
  | t :: ts, out, ho, ht => by
    rw [List.map_cons, List.foldl_cons, List.foldl_cons, h.addV ho (ht t (by simp))]
    refine h.foldV ts (fun x hx => ?_) (fun u hu => ht u (by simp [hu]))
    rcases mem_addV.1 hx with a | ⟨rfl, b⟩
    · exact ho x a
    · exact ht t (by simp) b
theorem RenOk.avars (h : RenOk f V) {ts : List Tm} (ht : ∀ t ∈ ts, t.var ≠ ByteArray.empty → t.var ∈ V) : avars (ts.map (renT f)) = (avars ts).map f := h.foldV ts (out := []) (fun x hx => by cases hx) ht
end
theorem ren_vars {f : ByteArray → ByteArray} {xs : List Am} (h : RenOk f (qvars xs)) : qvars (xs.map (renA f)) = (qvars xs).map f := by
  rw [qvars_flat, qvars_flat]
  rw [show (xs.map (renA f)).flatMap Am.terms = (xs.flatMap Am.terms).map (renT f) from ?_]
  · refine h.avars fun t ht hn => ?_
    obtain ⟨a, ha, hta⟩ := List.mem_flatMap.1 ht
    exact mem_qvars.2 ⟨hn, a, ha, t, hta, rfl⟩
  · rw [List.flatMap_map, List.map_flatMap]; rfl
theorem ren_avars {f : ByteArray → ByteArray} {xs : List Am} (h : RenOk f (qvars xs)) {a : Am} (ha : a ∈ xs) : avars (renA f a).terms = (avars a.terms).map f :=
  h.avars fun t ht hn => mem_qvars.2 ⟨hn, a, ha, t, ht, rfl⟩
theorem nm_map (f : ByteArray → ByteArray) (L : List ByteArray) (k : Nat) (h : k < L.length) : nm (L.map f) k = f (nm L k) := by
  rw [← nm_eq _ k (by simpa using h), List.getElem_map, nm_eq]
theorem ren_setOf {f : ByteArray → ByteArray} {V : List ByteArray} (h : RenOk f V) (hl : V.length ≤ 32) {L : List ByteArray} (hL : ∀ x ∈ L, x ∈ V) : setOf (V.map f) (L.map f) = setOf V L := by
  apply BitVec.eq_of_getLsbD_eq
  intro i _
  rw [getLsbD_setOf _ (by simpa using hl), getLsbD_setOf _ hl, List.length_map]
  by_cases c : i < V.length
  · rw [nm_map f V i c]
    simp only [decide_eq_true c, Bool.true_and]
    exact decide_eq_decide.2 (h.mem hL (nm_mem V i c))
  · simp [c]
theorem ren_atI {f : ByteArray → ByteArray} {V : List ByteArray} (h : RenOk f V) {x : ByteArray} (hx : x ∈ V) : atI (V.map f) (f x) = atI V x := by
  rcases atI_cases V x with ⟨_, a⟩ | ⟨k, e, hk, hn, hno⟩
  · exact absurd hx a
  · rw [e]
    refine atI_hit (by simpa using hk) (by rw [nm_map f V k hk, hn]) fun j hj c => ?_
    rw [nm_map f V j (by omega)] at c
    exact hno j hj (h.inj _ (nm_mem V j (by omega)) x hx c)
section
variable {f : ByteArray → ByteArray} {q : Qy}
theorem ren_ofE (hg : GoodQ q) (h : RenOk f (qvars q.atoms)) : ofE (renQ f q) = ofE q := by
  have hl := qvars_length hg.narrow hg.few
  unfold ofE renQ
  simp only [List.map_map, ren_vars h]
  refine List.map_congr_left fun a ha => ?_
  simp only [Function.comp_apply, ren_avars h ha]
  exact ren_setOf h (by omega) fun x hx => avars_sub ha hx
theorem ren_headW (hg : GoodQ q) (h : RenOk f (qvars q.atoms)) : headW (renQ f q) = headW q := by
  have hl := qvars_length hg.narrow hg.few
  unfold headW renQ
  simp only [ren_vars h]
  exact ren_setOf h (by omega) hg.safe
theorem ren_head (hg : GoodQ q) (h : RenOk f (qvars q.atoms)) : (renQ f q).head.map (fun x => atI (qvars (renQ f q).atoms) x) = q.head.map fun x => atI (qvars q.atoms) x := by
  unfold renQ
  simp only [List.map_map, ren_vars h]
  exact List.map_congr_left fun x hx => ren_atI h (hg.safe x hx)
theorem ren_vlen (h : RenOk f (qvars q.atoms)) : (qvars (renQ f q).atoms).length = (qvars q.atoms).length := by
  show (qvars (q.atoms.map (renA f))).length = _
  rw [ren_vars h, List.length_map]
theorem ren_good (hg : GoodQ q) (h : RenOk f (qvars q.atoms)) : GoodQ (renQ f q) := by
  have hn := hg.names
  unfold namesB at hn
  simp only [Bool.and_eq_true, List.all_eq_true] at hn
  have hc := hg.consts
  simp only [List.all_eq_true] at hc
  refine ⟨?_, ?_, by simpa [renQ] using hg.some_, by simpa [renQ] using hg.few, fun a ha => ?_, ?_, fun x hx => ?_⟩
  · unfold namesB renQ
    simp only [Bool.and_eq_true, List.all_eq_true, List.mem_map, forall_exists_index, and_imp, forall_apply_eq_imp_iff₂]
    refine ⟨⟨hn.1.1, fun x hx => h.name x (hg.safe x hx)⟩, fun a ha => ?_⟩
    have h1 := hn.2 a ha
    unfold anameB at h1 ⊢
    unfold renA
    simp only [Bool.and_eq_true, List.all_eq_true, List.mem_map, forall_exists_index, and_imp, forall_apply_eq_imp_iff₂] at h1 ⊢
    refine ⟨h1.1, fun t ht => ?_⟩
    have h2 := h1.2 t ht
    unfold tnameB at h2 ⊢
    rw [renT_var]
    by_cases c : t.var = ByteArray.empty
    · rw [if_pos c]; simp [c]
    · rw [if_neg c, h.name _ (mem_qvars.2 ⟨c, a, ha, t, ht, rfl⟩), Bool.or_true]
  · simp only [List.all_eq_true]
    intro b hb
    obtain ⟨a, ha, rfl⟩ := List.mem_map.1 hb
    have h1 := hc a ha
    unfold aterm at h1 ⊢
    simp only [List.all_eq_true] at h1 ⊢
    intro u hu
    obtain ⟨t, ht, rfl⟩ := List.mem_map.1 hu
    have h2 := h1 t ht
    by_cases c : t.var = ByteArray.empty
    · rw [show renT f t = t from if_pos c]; exact h2
    · rw [show renT f t = ⟨f t.var, t.kind, t.num, t.text⟩ from if_neg c]
      unfold termB at h2 ⊢
      rw [if_neg c] at h2
      rw [if_neg (h.full (mem_qvars.2 ⟨c, a, ha, t, ht, rfl⟩))]
      exact h2
  · obtain ⟨b, hb, rfl⟩ := List.mem_map.1 ha
    show (b.terms.map _).length ≤ 5
    rw [List.length_map]; exact hg.narrow b hb
  · have ha := hg.apart
    unfold dupB at ha ⊢
    rw [List.any_eq_false] at ha ⊢
    intro i hi
    rw [List.mem_range, show (renQ f q).head = q.head.map f from rfl, List.length_map] at hi
    have h1 := ha i (by simpa using hi)
    unfold dupAt at h1 ⊢
    rw [show (renQ f q).head = q.head.map f from rfl, nm_map f _ i hi, ← List.map_take]
    intro c
    refine h1 (decide_eq_true ?_)
    exact (h.mem (fun x hx => hg.safe x (List.mem_of_mem_take hx)) (hg.safe _ (nm_mem _ i hi))).1 (of_decide_eq_true c)
  · obtain ⟨y, hy, rfl⟩ := List.mem_map.1 hx
    rw [show (renQ f q).atoms = q.atoms.map (renA f) from rfl, ren_vars h]
    exact List.mem_map_of_mem (hg.safe y hy)
/-- The plan of the query named anew. -/
theorem make_ren (hs : shapeC q = 0) (h : RenOk f (qvars q.atoms)) {p r : PPlan} {a b : Int} (hp : MakeIs q p a) (hr : MakeIs (renQ f q) r b) :
    a = b ∧ (a = 0 → r.vars = qvars (renQ f q).atoms) ∧ (⟨p.vars, r.head, r.nodes, r.root, r.tops⟩ : PPlan) = p := by
  have hg := shapeC_iff.1 hs
  have hs' := shapeC_iff.2 (ren_good hg h)
  have e1 := ren_ofE hg h
  have e2 := ren_headW hg h
  have e3 := ren_vlen h
  have e4 := ren_head hg h
  rcases hp with ⟨h1, _⟩ | ⟨_, h2, rfl, rfl⟩ | ⟨_, h2, ⟨n, h3⟩, rfl, rfl⟩ | ⟨_, h2, n, h3, rfl, rfl⟩
  · exact absurd hs h1
  all_goals
    rcases hr with ⟨k1, _⟩ | ⟨_, k2, rfl, rfl⟩ | ⟨_, k2, ⟨m, k3⟩, rfl, rfl⟩ | ⟨_, k2, m, k3, rfl, rfl⟩
    · exact absurd hs' k1
    all_goals
      rw [e1, e3] at k2
      try rw [e1, e2] at k3
      first
      | exact absurd (h2.symm.trans k2) (by decide)
      | exact absurd (firstOk_uniq h3 k3).2 (by decide)
      | exact ⟨rfl, fun c => absurd c (by decide), rfl⟩
      | exact ⟨rfl, fun _ => rfl, by
          rw [← (firstOk_uniq h3 k3).1]
          unfold planE
          simp only [e1, e2, e4]⟩
end
end Go.Proofs.YtdemmjofggemhaaDoor
