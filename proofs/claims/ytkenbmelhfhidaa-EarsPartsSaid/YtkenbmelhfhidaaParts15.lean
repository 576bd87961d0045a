/- A join tree stays one where vertices are taken out, or a part of an edge comes to it: the plain law of EarsParts. No program in sight. -/
import Derived.Test.YtkenbmelhfhidaaCover
namespace Go.Proofs.Ytkenbmelhfhidaa

def cutAll (E : List (BitVec 32)) (s : BitVec 32) : List (BitVec 32) := E.map (· &&& s)
theorem cutAll_length (E : List (BitVec 32)) (s : BitVec 32) : (cutAll E s).length = E.length := by simp [cutAll]
theorem ed_cutAll (E : List (BitVec 32)) (s : BitVec 32) (i : Nat) : ed (cutAll E s) i = ed E i &&& s := by
  unfold ed cutAll
  simp only [List.getD_eq_getElem?_getD, List.getElem?_map]
  cases E[i]? <;> simp
theorem jt_cut {E : List (BitVec 32)} {p : Nat → Int} (s : BitVec 32) (h : JT E p) : JT (cutAll E s) p := by
  refine ⟨by rw [cutAll_length]; exact h.1, fun v i j hi hj a b => ?_⟩
  rw [cutAll_length] at hi hj
  have key : ∀ i, Top (cutAll E s) p v i → Top E p v i := by
    rintro i ⟨a1, a2⟩
    rw [ed_cutAll, hv_and] at a1
    refine ⟨a1.1, a2.imp id fun c d => c ?_⟩
    rw [ed_cutAll, hv_and]; exact ⟨d, a1.2⟩
  exact h.2 v i j hi hj (key i a) (key j b)
theorem jt_part {E : List (BitVec 32)} {p : Nat → Int} {k : Nat} {x : BitVec 32} (h : JT E p) (hk : k < E.length) (hx : ∀ v, hv x v → hv (ed E k) v) : JT (E ++ [x]) (fun i => if i < E.length then p i else (k : Int)) := by
  have hl : (E ++ [x]).length = E.length + 1 := by simp
  obtain ⟨⟨t1, ⟨d, t2⟩, t3⟩, t4⟩ := h
  refine ⟨⟨fun i hi => ?_, ⟨fun i => if i < E.length then d i else d k + 1, fun i hi h0 => ?_⟩, fun i j hi hj a b => ?_⟩, fun v i j hi hj a b => ?_⟩
  · rw [hl] at hi ⊢
    by_cases c : i < E.length
    · have := t1 i c
      simp only [if_pos c]; omega
    · simp only [if_neg c]; omega
  · rw [hl] at hi
    by_cases c : i < E.length
    · simp only [if_pos c] at h0 ⊢
      have h1 := t1 i c
      rw [if_pos (by omega)]
      exact t2 i c h0
    · simp only [if_neg c] at h0 ⊢
      rw [Int.toNat_natCast, if_pos hk]
      omega
  · rw [hl] at hi hj
    by_cases c : i < E.length
    · by_cases c2 : j < E.length
      · simp only [if_pos c] at a
        simp only [if_pos c2] at b
        exact t3 i j c c2 a b
      · simp only [if_neg c2] at b; omega
    · simp only [if_neg c] at a; omega
  · rw [hl] at hi hj
    have key : ∀ i, i < E.length + 1 → Top (E ++ [x]) (fun i => if i < E.length then p i else (k : Int)) v i → i < E.length ∧ Top E p v i := by
      rintro i hi ⟨a1, a2⟩
      by_cases c : i < E.length
      · refine ⟨c, ?_⟩
        rw [ed_app, if_pos c] at a1
        simp only [if_pos c] at a2
        refine ⟨a1, a2.imp id fun e f => e ?_⟩
        have := t1 i c
        rw [ed_app]
        by_cases c3 : (p i).toNat < E.length
        · rw [if_pos c3]; exact f
        · exfalso; unfold ed at f; rw [List.getD_eq_getElem?_getD, List.getElem?_eq_none (by omega)] at f; exact hv_zero v f
      · exfalso
        obtain rfl : i = E.length := by omega
        rw [ed_app, if_neg (Nat.lt_irrefl _), if_pos rfl] at a1
        simp only [if_neg (Nat.lt_irrefl _)] at a2
        rcases a2 with e | e
        · omega
        · rw [Int.toNat_natCast, ed_app, if_pos hk] at e
          exact e (hx v a1)
    obtain ⟨i1, i2⟩ := key i hi a
    obtain ⟨j1, j2⟩ := key j hj b
    exact t4 v i j i1 j1 i2 j2
theorem outB_and {V : Int} {e : BitVec 32} (s : BitVec 32) (h : outB V e = false) : outB V (e &&& s) = false := by
  unfold outB at h ⊢
  rw [bne_eq_false_iff_eq] at h ⊢
  rw [eq_zero_iff] at h ⊢
  intro v hh
  rw [hv_andNot, hv_and] at hh
  exact h v ((hv_andNot _ _ _).2 ⟨hh.1.1, hh.2⟩)
theorem outB_andl {V : Int} {e : BitVec 32} (s : BitVec 32) (h : outB V e = false) : outB V (s &&& e) = false := by
  rw [BitVec.and_comm]; exact outB_and s h
theorem validB_mk {V : Int} {E : List (BitVec 32)} (h0 : 0 ≤ V) (h1 : V ≤ 30) (h2 : E.length ≤ 7) (h3 : ∀ e ∈ E, outB V e = false) : validB V E = true := by
  unfold validB
  have : E.any (outB V) = false := by
    rw [List.any_eq_false]; intro e he; rw [h3 e he]; simp
  rw [this]; simp [h0, h1, h2]
theorem validB_out {V : Int} {E : List (BitVec 32)} (h : validB V E = true) : ∀ e ∈ E, outB V e = false := fun e he => by
  simpa using List.any_eq_false.1 (validB_of h).2.2.2 e he
theorem cut_valid {V : Int} {E : List (BitVec 32)} (s : BitVec 32) (h : validB V E = true) : validB V (cutAll E s) = true := by
  obtain ⟨h0, h1, h2, _⟩ := validB_of h
  refine validB_mk h0 h1 (by rw [cutAll_length]; exact h2) fun e he => ?_
  obtain ⟨a, ha, rfl⟩ := List.mem_map.1 he
  exact outB_and s (validB_out h a ha)
theorem acyB_valid {V : Int} {E : List (BitVec 32)} (h : acyB V E = true) : validB V E = true := by
  unfold acyB at h; rw [Bool.and_eq_true] at h; exact h.1
theorem cut_acy {V : Int} {E : List (BitVec 32)} (s : BitVec 32) (h : acyB V E = true) : acyB V (cutAll E s) = true ∧ codeB V (cutAll E s) = 0 := by
  have hv := acyB_valid h
  have h2 := cut_valid s hv
  obtain ⟨p, hp⟩ := (acyB_iff hv).1 h
  exact ⟨(acyB_iff h2).2 ⟨p, jt_cut s hp⟩, by unfold codeB; rw [h2]; rfl⟩
theorem part_acy {V : Int} {E : List (BitVec 32)} {k : Nat} {s : BitVec 32} (h : acyB V E = true) (h6 : E.length ≤ 6) (hk : k < E.length) : acyB V (E ++ [s &&& ed E k]) = true ∧ codeB V (E ++ [s &&& ed E k]) = 0 := by
  have hv := acyB_valid h
  obtain ⟨h0, h1, _, _⟩ := validB_of hv
  have h2 : validB V (E ++ [s &&& ed E k]) = true := validB_mk h0 h1 (by simp; omega) fun e he => by
    rcases List.mem_append.1 he with he | he
    · exact validB_out hv e he
    · rw [List.mem_singleton.1 he]; exact outB_andl s (validB_out hv _ (ed_mem E k hk))
  obtain ⟨p, hp⟩ := (acyB_iff hv).1 h
  exact ⟨(acyB_iff h2).2 ⟨_, jt_part hp hk fun v hh => ((hv_and _ _ _).1 hh).2⟩, by unfold codeB; rw [h2]; rfl⟩
end Go.Proofs.Ytkenbmelhfhidaa
