/- The plain laws of ClassifyChain and ClassifyAlike. -/
import Derived.Test.YtkenbmelhfhidaaBG
namespace Go.Proofs.Ytkenbmelhfhidaa

theorem cov_out {V : Int} {E : List (BitVec 32)} (h : validB V E = true) : outB V (covB E) = false := by
  obtain ⟨h0, h1, _, _⟩ := validB_of h
  refine outB_false_of h0 h1 fun v hvv hk => ?_
  rw [inB_nat]
  cases d : (covB E).getLsbD v
  · rfl
  · obtain ⟨e, he, hh⟩ := (hv_cov E v).1 d
    have := outB_true_of h0 h1 (k := v) hvv (x := e) (by rw [inB_nat]; exact hh)
    rw [validB_out h e he] at this
    cases this
theorem ext_valid {V : Int} {E : List (BitVec 32)} {head : BitVec 32} (hg : goodB V E = true) : validB V (extE E head) = true := by
  obtain ⟨hv, h6⟩ := goodB_iff.1 hg
  obtain ⟨h0, h1, _, _⟩ := validB_of hv
  refine validB_mk h0 h1 (by rw [extE_length]; omega) fun e he => ?_
  rcases mem_ext.1 he with h | rfl
  · exact validB_out hv e h
  · exact outB_andl head (cov_out hv)
theorem noknot_cover {E : List (BitVec 32)} {x : BitVec 32} (hx : ∀ e ∈ E, ∀ v, hv e v → hv x v) : ¬ ∃ R, Knot (E ++ [x]) R := by
  rintro ⟨R, k⟩
  have hl : (E ++ [x]).length = E.length + 1 := by simp
  obtain ⟨i, hi, hp⟩ := k.part E.length (by omega)
  rw [ed_app, if_neg (Nat.lt_irrefl _), if_pos rfl] at hp
  have all : ∀ a, a < R.length → a = i := fun a ha => by
    refine k.anti a i ha hi fun v hav => ?_
    obtain ⟨j, hj, e⟩ := k.edge _ (ed_mem R a ha)
    obtain ⟨h1, h2⟩ := (e v).1 hav
    refine hp v ?_ h2
    rw [ed_app] at h1
    by_cases c : j < E.length
    · rw [if_pos c] at h1; exact hx _ (ed_mem E j c) v h1
    · rw [if_neg c, if_pos (by omega)] at h1; exact h1
  obtain ⟨v0, h0⟩ := k.ne
  obtain ⟨a, b, ha, hb, hab, _, _⟩ := k.twice v0 h0
  exact hab ((all a ha).trans (all b hb).symm)
theorem knot_zero {E R : List (BitVec 32)} (k : Knot (E ++ [0#32]) R) : Knot E R := by
  have hl : (E ++ [0#32]).length = E.length + 1 := by simp
  refine ⟨k.ne, k.anti, k.twice, fun a ha => ?_, fun j hj => ?_⟩
  · obtain ⟨j, hj, e⟩ := k.edge a ha
    by_cases c : j < E.length
    · rw [ed_app, if_pos c] at e; exact ⟨j, c, e⟩
    · exfalso
      rw [ed_app, if_neg c, if_pos (by omega)] at e
      obtain ⟨q, hq, rfl⟩ := mem_ed ha
      have hz : ∀ i, i < R.length → q = i := fun i hi => k.anti q i hq hi fun v hh => absurd ((e v).1 hh).1 (hv_zero v)
      obtain ⟨v0, h0⟩ := k.ne
      obtain ⟨a, b, ha, hb, hab, _, _⟩ := k.twice v0 h0
      exact hab ((hz a ha).symm.trans (hz b hb))
  · obtain ⟨i, hi, h⟩ := k.part j (by omega)
    rw [ed_app, if_pos hj] at h
    exact ⟨i, hi, h⟩
theorem clash_hier {V : Int} {E : List (BitVec 32)} {head : BitVec 32} {p q : Int} {ok : Bool} (hg : goodB V E = true) (h : ClashIs V E head p q ok 0) : ok = !hierB V.toNat E head := by
  obtain ⟨h0, h1, _, _⟩ := validB_of (goodB_iff.1 hg).1
  rcases h with ⟨g, _⟩ | ⟨_, _, _, rfl, _, hn⟩ | ⟨_, rfl, _, a, b, _, _, ha, hb, hc, _⟩
  · rw [hg] at g; cases g
  · have : hierB V.toNat E head = true := hierB_iff.2 fun a b ha hb => hn a b (by omega) (by omega)
    rw [this]; rfl
  · have : hierB V.toNat E head = false := by
      rw [← Bool.not_eq_true]
      intro hh
      have := hierB_iff.1 hh a b (by omega) (by omega)
      rw [hc] at this; cases this
    rw [this]; rfl
theorem class_of {V : Int} {E : List (BitVec 32)} {head : BitVec 32} {a x h : Bool} {c : Int} (hg : goodB V E = true) (K : ClassIs V E head a x h c) : a = acyB V E ∧ x = (acyB V E && acyB V (extE E head)) ∧ h = hierB V.toNat E head ∧ c = 0 := by
  rcases K with ⟨g, _⟩ | ⟨_, ha, hx, hc, p, q, hC⟩
  · rw [hg] at g; cases g
  · refine ⟨ha, hx, ?_, hc⟩
    have := clash_hier hg hC
    cases h <;> cases d : hierB V.toNat E head <;> rw [d] at this <;> simp at this ⊢
theorem class_not {V : Int} {E : List (BitVec 32)} {head : BitVec 32} {a x h : Bool} {c : Int} (hg : goodB V E = false) (K : ClassIs V E head a x h c) : a = false ∧ x = false ∧ h = false ∧ c = 140 := by
  rcases K with ⟨_, h⟩ | ⟨g, _⟩
  · exact h
  · rw [hg] at g; cases g
theorem class_uniq {V : Int} {E : List (BitVec 32)} {head : BitVec 32} {a x h a' x' h' : Bool} {c c' : Int} (K : ClassIs V E head a x h c) (K' : ClassIs V E head a' x' h' c') : a = a' ∧ x = x' ∧ h = h' ∧ c = c' := by
  cases hg : goodB V E
  · obtain ⟨rfl, rfl, rfl, rfl⟩ := class_not hg K
    obtain ⟨rfl, rfl, rfl, rfl⟩ := class_not hg K'
    exact ⟨rfl, rfl, rfl, rfl⟩
  · obtain ⟨rfl, rfl, rfl, rfl⟩ := class_of hg K
    obtain ⟨rfl, rfl, rfl, rfl⟩ := class_of hg K'
    exact ⟨rfl, rfl, rfl, rfl⟩
theorem good_lt {V : Int} {E : List (BitVec 32)} (hg : goodB V E = true) : ∀ e ∈ E, ∀ v, hv e v → v < V.toNat := fun e he v hh => by
  obtain ⟨hv, _⟩ := goodB_iff.1 hg
  obtain ⟨h0, h1, _, _⟩ := validB_of hv
  apply Classical.byContradiction
  intro c
  have := outB_true_of h0 h1 (k := v) (by omega) (x := e) (by rw [inB_nat]; exact hh)
  rw [validB_out hv e he] at this
  cases this
theorem chain_law {V : Int} {E : List (BitVec 32)} {head ones : BitVec 32} {a x h a1 x1 h1 a0 x0 h0 : Bool} {c c1 c0 : Int} (ho : ∀ v, v < 32 → hv ones v) (K : ClassIs V E head a x h c) (K1 : ClassIs V E ones a1 x1 h1 c1) (K0 : ClassIs V E 0#32 a0 x0 h0 c0) :
    (c = 140 ∧ a = false ∧ x = false ∧ h = false) ∨ (c = 0 ∧ (h = true → x = true) ∧ (x = true → a = true) ∧ a1 = a ∧ a0 = a ∧ x1 = a ∧ x0 = a ∧ h1 = h0) := by
  cases hg : goodB V E
  · obtain ⟨rfl, rfl, rfl, rfl⟩ := class_not hg K
    exact .inl ⟨rfl, rfl, rfl, rfl⟩
  · obtain ⟨rfl, rfl, rfl, rfl⟩ := class_of hg K
    obtain ⟨rfl, rfl, rfl, rfl⟩ := class_of hg K1
    obtain ⟨rfl, rfl, rfl, rfl⟩ := class_of hg K0
    obtain ⟨hv, h6⟩ := goodB_iff.1 hg
    have hlt := good_lt hg
    have hP : ∀ head, hierB V.toNat E head = true ↔ HierP E head := fun head => hierP_iff hlt
    refine .inr ⟨rfl, fun hh => ?_, fun hx => ?_, rfl, rfl, ?_, ?_, ?_⟩
    · obtain ⟨j1, j2⟩ := hier_connex h6 ((hP head).1 hh)
      rw [(acyB_iff hv).2 j2, (acyB_iff (ext_valid hg)).2 j1]; rfl
    · rw [Bool.and_eq_true] at hx; exact hx.1
    · have : acyB V (extE E ones) = true := (acyB_iff (ext_valid hg)).2 ((jt_iff (by rw [extE_length]; omega)).2 (noknot_cover fun e he v hh => (hv_and _ _ _).2 ⟨ho v (hv_lt hh), (hv_cov E v).2 ⟨e, he, hh⟩⟩))
      rw [this, Bool.and_true]
    · cases d : acyB V E
      · rfl
      · have hj := (acyB_iff hv).1 d
        have : acyB V (extE E 0#32) = true := (acyB_iff (ext_valid hg)).2 ((jt_iff (by rw [extE_length]; omega)).2 (by
          rintro ⟨R, k⟩
          unfold extE at k
          rw [BitVec.zero_and] at k
          exact (jt_iff (by omega)).1 hj ⟨R, knot_zero k⟩))
        rw [this]; rfl
    · rw [Bool.eq_iff_iff, hP, hP]
      exact ⟨fun k => k.none, fun k => k.full fun v ⟨e, _, hh⟩ => ho v (hv_lt hh)⟩
theorem alike_law {V : Int} {E F : List (BitVec 32)} {head head2 : BitVec 32} {a x h a' x' h' : Bool} {c c' : Int} (hg : goodB V E = true) (hgF : goodB V F = true) (hm : ∀ a, a ∈ E ↔ a ∈ F) (hh : ∀ v, v < V.toNat → (hv head v ↔ hv head2 v)) (K : ClassIs V E head a x h c) (K' : ClassIs V F head2 a' x' h' c') : a = a' ∧ x = x' ∧ h = h' ∧ c' = 0 := by
  obtain ⟨rfl, rfl, rfl, rfl⟩ := class_of hg K
  obtain ⟨rfl, rfl, rfl, rfl⟩ := class_of hgF K'
  obtain ⟨hv1, h6⟩ := goodB_iff.1 hg
  obtain ⟨hv2, k6⟩ := goodB_iff.1 hgF
  have hlt := good_lt hg
  have hh1 : ∀ v, (∃ e ∈ E, hv e v) → (hv head v ↔ hv head2 v) := fun v ⟨e, he, k⟩ => hh v (hlt e he v k)
  have hh2 : ∀ v, (∃ e ∈ F, hv e v) → (hv head2 v ↔ hv head v) := fun v ⟨e, he, k⟩ => (hh v (good_lt hgF e he v k)).symm
  have e1 : acyB V E = acyB V F := by
    rw [Bool.eq_iff_iff, acyB_iff hv1, acyB_iff hv2]
    exact jt_mem (by omega) (by omega) hm
  have e2 : acyB V (extE E head) = acyB V (extE F head2) := by
    rw [Bool.eq_iff_iff, acyB_iff (ext_valid hg), acyB_iff (ext_valid hgF)]
    exact jt_mem (by rw [extE_length]; omega) (by rw [extE_length]; omega) (ext_mem hm hh1)
  refine ⟨e1, by rw [e1, e2], ?_, rfl⟩
  rw [Bool.eq_iff_iff, hierP_iff hlt, hierP_iff (good_lt hgF)]
  exact ⟨fun k => k.mem hm hh1, fun k => k.mem (fun a => (hm a).symm) hh2⟩
end Go.Proofs.Ytkenbmelhfhidaa
