/- What JointreeRooted looks at, without the program. -/
import Derived.Test.YtkenbmelhfhidaaRootLaw
import Derived.Test.YtkenbmelhfhidaaOrderLaw
namespace Go.Proofs.Ytkenbmelhfhidaa
theorem tree_eq {n : Nat} {p q : Nat → Int} (h : ∀ i, i < n → q i = p i) (t : Tree n p) : Tree n q := by
  refine ⟨fun i hi => by rw [h i hi]; exact t.rng i hi, ?_, fun i j hi hj a b => t.one i j hi hj (by rw [← h i hi]; exact a) (by rw [← h j hj]; exact b)⟩
  obtain ⟨d, hd⟩ := t.rank
  exact ⟨d, fun i hi h0 => by rw [h i hi] at h0 ⊢; exact hd i hi h0⟩
theorem oneTop_eq {E : List (BitVec 32)} {p q : Nat → Int} (h : ∀ i, i < E.length → q i = p i) (t : OneTop E p) : OneTop E q := by
  intro v i j hi hj a b
  refine t v i j hi hj ?_ ?_
  · unfold Top at a ⊢; rw [← h i hi]; exact a
  · unfold Top at b ⊢; rw [← h j hj]; exact b
theorem rowOf_eq {n : Nat} {f g : Nat → Int} (h : ∀ i, i < n → f i = g i) : rowOf n f = rowOf n g := by
  unfold rowOf
  exact List.map_congr_left fun i hi => h i (List.mem_range.1 hi)
theorem rooted_facts {P : List Int} {root : Int} {Z : List Int} (h : RootIs P root Z 0) : ∃ r : Nat, root = r ∧ r < P.length ∧ Z.length = P.length ∧ treeB P = true ∧ pz Z r = -1 ∧ (∀ V E, checkB V E Z = checkB V E P) ∧
    (∀ i j : Nat, i < P.length → j < P.length → ((pz Z i == (j : Int)) || (pz Z j == (i : Int))) = ((pz P i == (j : Int)) || (pz P j == (i : Int)))) ∧ (∃ o, o < P.length ∧ pz P o = -1) ∧
    ∀ o : Nat, o < P.length → pz P o = -1 → ∀ Y code, RootIs Z o Y code → Y = P ∧ code = 0 := by
  rcases h with ⟨_, _, h⟩ | ⟨_, _, _, h⟩ | ⟨hT, r, hr, hrl, hZ, _⟩
  · cases h
  · cases h
  · obtain ⟨h7, ht⟩ := (treeB_iff P).1 hT
    obtain ⟨f1, f2, f3, f4⟩ := rer_facts ht hrl
    have hlen : Z.length = P.length := by rw [hZ, rowOf_length]
    have hz : ∀ i, i < P.length → pz Z i = rer P.length (pz P) r i := fun i hi => by rw [hZ]; exact pz_rowF hi
    have tz : Tree Z.length (pz Z) := by rw [hlen]; exact tree_eq hz f1
    have hTZ : treeB Z = true := (treeB_iff Z).2 ⟨by omega, tz⟩
    refine ⟨r, hr, hrl, hlen, hT, by rw [hz r hrl]; exact f2, ?_, ?_, ?_, ?_⟩
    · intro V E
      rw [Bool.eq_iff_iff, checkB_iff, checkB_iff, hlen]
      refine and_congr_right fun _ => and_congr_right fun he => ?_
      unfold JT
      have hzE : ∀ i, i < E.length → pz Z i = rer P.length (pz P) r i := fun i hi => hz i (by omega)
      constructor
      · rintro ⟨_, b⟩
        exact ⟨he ▸ ht, (f4 E he.symm).1 (oneTop_eq (fun i hi => (hzE i hi).symm) b)⟩
      · rintro ⟨_, b⟩
        exact ⟨by rw [← he, ← hlen]; exact tz, oneTop_eq hzE ((f4 E he.symm).2 b)⟩
    · intro i j hi hj
      rw [hz i hi, hz j hj, Bool.eq_iff_iff]
      simp only [Bool.or_eq_true, beq_iff_eq]
      exact f3 i j
    · obtain ⟨o, ho, h0, _⟩ := ord_root ht (by omega)
      exact ⟨o, ho, h0⟩
    · intro o ho h0 Y code hY
      rcases hY with ⟨a, _, _⟩ | ⟨_, a, _, _⟩ | ⟨_, s, hs, _, hY, hc⟩
      · rw [hTZ] at a; cases a
      · omega
      · obtain rfl : o = s := by omega
        refine ⟨?_, hc⟩
        rw [hY, hlen]
        have hb := rer_back ht hrl ho h0
        have tz' : Tree P.length (pz Z) := by rw [← hlen]; exact tz
        obtain ⟨g1, g2, g3, _⟩ := rer_facts tz' ho
        have hu := tree_uniq ht g1 (fun i j => ?_) ho h0 g2
        · rw [rowOf_eq hu]; exact rowOf_pz P
        · refine (g3 i j).trans ?_
          have hall : ∀ i, pz Z i = rer P.length (pz P) r i := by
            intro i
            by_cases hi : i < P.length
            · exact hz i hi
            · have e1 : rer P.length (pz P) r i = pz P i := trnF_out fun hm => hi (ht.way_lt r hrl i hm)
              rw [e1]
              unfold pz
              rw [List.getD_eq_getElem?_getD, List.getD_eq_getElem?_getD, List.getElem?_eq_none (by omega), List.getElem?_eq_none (by omega)]
          rw [hall i, hall j]
          exact f3 i j
end Go.Proofs.Ytkenbmelhfhidaa
