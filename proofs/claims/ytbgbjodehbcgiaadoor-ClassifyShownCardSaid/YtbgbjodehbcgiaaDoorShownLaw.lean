/- The plain law of ClassifyShown: what Classify, Rest, Path and Extended answer fits together. No program in sight. -/
import Derived.Test.YtbgbjodehbcgiaaDoorStuckLaw
import Derived.Test.YtbgbjodehbcgiaaDoorP17Law
import Derived.Test.YtbgbjodehbcgiaaDoorLKPaths
namespace Go.Proofs.YtbgbjodehbcgiaaDoor

theorem left_knot {E Z : List (BitVec 32)} (k : LeftIs E 0#32 Z) (h0 : 0 < Z.length) : KnotP E Z := by
  refine ⟨h0, k.ne, k.anti, fun v _ e => ?_, k.edge, fun j hj => ?_⟩
  · have hex : ∃ i, i < Z.length ∧ (ed Z i).getLsbD v = true := by
      apply Classical.byContradiction
      intro c
      have : mt Z Z.length v = 0 := by
        unfold mt
        rw [cntB_congr (q := fun _ => false) fun i hi => by
          cases hb : (ed Z i).getLsbD v
          · rfl
          · exact absurd ⟨i, hi, hb⟩ c]
        exact cntB_none (fun _ => rfl) _
      omega
    obtain ⟨i, hi, hb⟩ := hex
    obtain ⟨j, hj, hij, hb2⟩ := k.twice i v hi hb (hv_zero v)
    have : 2 ≤ mt Z Z.length v := cntB_ge_two hi hj (Ne.symm hij) hb hb2
    omega
  · rcases k.part j hj with e | e
    · refine ⟨0, h0, ?_⟩
      rw [e]
      simp [subB]
    · exact e
theorem rest_knot {V : Int} {E Z : List (BitVec 32)} {code : Int} (hv0 : validB V E = true) (h : RestIs V E 0#32 Z code) : code = 0 ∧ (acyB V E = true → Z = []) ∧ (acyB V E = false → KnotP E Z) := by
  obtain ⟨h1, h2⟩ := rest_acy h
  have hc : code = 0 := by rw [h1]; unfold codeB; rw [if_pos hv0]
  refine ⟨hc, fun ha => ?_, fun ha => ?_⟩
  · rw [ha, Bool.and_eq_true, beq_iff_eq, beq_iff_eq] at h2
    exact List.length_eq_zero_iff.1 (by omega)
  · rcases h with ⟨z, _⟩ | ⟨_, _, hr, hp⟩
    · rw [hv0] at z; cases z
    · refine left_knot (left_is (validB_of hv0).2.2.1 hr hp) ?_
      rcases Nat.eq_zero_or_pos Z.length with e | e
      · rw [hc, e, ha] at h2; exact absurd h2 (by decide)
      · exact e
theorem shown_facts {V V' : Int} {E F Z : List (BitVec 32)} {head : BitVec 32} {a x h : Bool} {q f g k : Int} {P : List Nat} (K : ClassIs V E head a x h q) (C : Rest17Is V E head Z f) (D : Path17Is V E head P g) (X : ExtIs V E head V' F k) :
    (goodB V E = false ∧ q = 140 ∧ f = 140 ∧ g = 140 ∧ k = 140) ∨
    (goodB V E = true ∧ q = 0 ∧ f = 0 ∧ g = 0 ∧ k = 0 ∧ V' = V ∧ F = extE E head ∧ (∀ R rc, RestIs V E 0#32 R rc → ∀ ok, CRIs V E R ok → ok = !a) ∧
      ((x = true ∧ a = true ∧ Z = [] ∧ P = []) ∨
       (x = false ∧ a = true ∧ (∀ ok, CRIs V F Z ok → ok = true) ∧ (∀ ok, CPIs V E (head &&& covB E) (P.map Int.ofNat) ok → ok = true) ∧ 0 < P.length ∧ zed P 0 < zed P (P.length - 1)) ∨
       (x = false ∧ a = false ∧ h = false ∧ P = [] ∧ ∀ ok, CRIs V E Z ok → ok = true))) := by
  obtain ⟨a1, x1, h1, q1, K1, H1⟩ := C
  obtain ⟨a2, x2, h2, q2, K2, H2⟩ := D
  obtain ⟨rfl, rfl, rfl, rfl⟩ := class_uniq K K1
  obtain ⟨rfl, rfl, rfl, rfl⟩ := class_uniq K K2
  cases hg : goodB V E
  · obtain ⟨rfl, rfl, rfl, rfl⟩ := class_not hg K
    refine .inl ⟨rfl, rfl, ?_, ?_, ?_⟩
    · rcases H1 with ⟨_, _, e⟩ | ⟨e, _⟩ | ⟨e, _⟩
      · exact e
      · cases e
      · cases e
    · rcases H2 with ⟨_, _, e⟩ | ⟨e, _⟩
      · exact e
      · cases e
    · rcases X with ⟨_, _, _, e⟩ | ⟨e, _⟩
      · exact e
      · rw [hg] at e; cases e
  · obtain ⟨ha, hx, hh, rfl⟩ := class_of hg K
    have hv0 := (goodB_iff.1 hg).1
    have h6 := (goodB_iff.1 hg).2
    have hvx := ext_valid (head := head) hg
    obtain ⟨rfl, rfl, rfl⟩ : V' = V ∧ F = extE E head ∧ k = 0 := by
      rcases X with ⟨e, _⟩ | ⟨_, e1, e2, e3⟩
      · rw [hg] at e; cases e
      · exact ⟨e1, e2, e3⟩
    have hR : ∀ R rc, RestIs V' E 0#32 R rc → ∀ ok, CRIs V' E R ok → ok = !a := fun R rc RR ok hk => by
      obtain ⟨_, r1, r2⟩ := rest_knot hv0 RR
      cases e : acyB V' E
      · rw [ha, e]
        exact hk.2 ⟨hv0, r2 e⟩
      · rw [ha, e]
        cases ok
        · rfl
        · have := (hk.1 rfl).2.some
          rw [r1 e] at this
          exact absurd this (Nat.lt_irrefl _)
    have key : f = 0 ∧ g = 0 ∧ ((x = true ∧ a = true ∧ Z = [] ∧ P = []) ∨
       (x = false ∧ a = true ∧ (∀ ok, CRIs V' (extE E head) Z ok → ok = true) ∧ (∀ ok, CPIs V' E (head &&& covB E) (P.map Int.ofNat) ok → ok = true) ∧ 0 < P.length ∧ zed P 0 < zed P (P.length - 1)) ∨
       (x = false ∧ a = false ∧ h = false ∧ P = [] ∧ ∀ ok, CRIs V' E Z ok → ok = true)) := by
      rcases H1 with ⟨e, rfl, rfl⟩ | ⟨_, e1, e2, r⟩ | ⟨_, e1, e2, r⟩
      · have hxt : x = true := by
          rcases e with e | e
          · exact absurd rfl e
          · exact e
        have hat : a = true := by
          rw [hxt] at hx
          rw [ha]
          cases e : acyB V' E
          · rw [e] at hx; cases hx
          · rfl
        obtain ⟨rfl, rfl⟩ : P = [] ∧ g = 0 := by
          rcases H2 with ⟨_, e1, e2⟩ | ⟨_, _, e, _⟩
          · exact ⟨e1, e2⟩
          · rw [hxt] at e; cases e
        exact ⟨rfl, rfl, .inl ⟨hxt, hat, rfl, rfl⟩⟩
      · obtain ⟨rfl, r1, r2⟩ := rest_knot hv0 r
        obtain ⟨rfl, rfl⟩ : P = [] ∧ g = 0 := by
          rcases H2 with ⟨_, e1, e2⟩ | ⟨_, e, _⟩
          · exact ⟨e1, e2⟩
          · rw [e2] at e; cases e
        have hac : acyB V' E = false := by rw [← ha]; exact e2
        have hhf : h = false := by
          rw [hh]
          cases e : hierB V'.toNat E head
          · rfl
          · exfalso
            have := (hier_connex h6 ((hierP_iff (good_lt hg)).1 e)).2
            rw [← acyB_iff hv0, hac] at this
            cases this
        exact ⟨rfl, rfl, .inr (.inr ⟨e1, e2, hhf, rfl, fun ok hk => hk.2 ⟨hv0, r2 hac⟩⟩)⟩
      · obtain ⟨rfl, r1, r2⟩ := rest_knot hvx r
        have hac : acyB V' E = true := by rw [← ha]; exact e2
        have hxf : acyB V' (extE E head) = false := by
          rw [hac, Bool.true_and] at hx
          rw [← hx]; exact e1
        obtain ⟨rfl, hb⟩ : g = 0 ∧ bestC V' E (head &&& covB E) P := by
          rcases H2 with ⟨e, _⟩ | ⟨_, _, _, e, hb⟩
          · rcases e with e | e | e
            · exact absurd rfl e
            · rw [e2] at e; cases e
            · rw [e1] at e; cases e
          · exact ⟨e, hb⟩
        obtain ⟨hfr, hlt⟩ := best_some hv0 h6 ((acyB_iff hv0).1 hac) (fun z => by rw [← acyB_iff hvx, hxf] at z; cases z) hb
        have h3 := hfr.three
        rw [List.length_map] at h3
        exact ⟨rfl, rfl, .inr (.inl ⟨e1, e2, fun ok hk => hk.2 ⟨hvx, r2 hxf⟩, fun ok hk => hk.2 hfr, by omega, hlt⟩)⟩
    obtain ⟨k1, k2, k3⟩ := key
    exact .inr ⟨rfl, rfl, k1, k2, rfl, rfl, rfl, hR, k3⟩
end Go.Proofs.YtbgbjodehbcgiaaDoor
