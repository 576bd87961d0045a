/- What JointreeDown looks at, without the program. -/
import Derived.Test.YtkenbmelhfhidaaOrderLaw
namespace Go.Proofs.Ytkenbmelhfhidaa
theorem Dn_at {n : Nat} {p : Nat → Int} : ∀ {l : List Nat} {y : Nat}, Dn n p y l → ∀ k, k < l.length → ∃ j : Nat, p (zed (y :: l) (k + 1)) = j ∧ j ∈ way n p (zed (y :: l) k)
  | x :: l, y, h, 0, _ => h.1
  | x :: l, y, h, k + 1, hk => Dn_at (l := l) (y := x) h.2 k (by simpa using hk)
theorem down_facts {P : List Int} {Z : List Nat} (h : OrderIs P Z 0) : treeB P = true ∧ P.length ≤ 7 ∧ Tree P.length (pz P) ∧ Z.length = P.length ∧ (∀ k, k < Z.length → zed Z k < P.length) ∧ (∀ i j, i < j → j < Z.length → zed Z i ≠ zed Z j) ∧
    (0 < Z.length → pz P (zed Z 0) = -1) ∧ ∀ k, k + 1 < Z.length → ∃ q : Nat, pz P (zed Z (k + 1)) = q ∧ q ∈ way P.length (pz P) (zed Z k) ∧ ∃ j, j ≤ k ∧ zed Z j = q := by
  rcases h with ⟨_, _, h⟩ | ⟨hT, hZ, _⟩
  · cases h
  obtain ⟨h7, ht⟩ := (treeB_iff P).1 hT
  have hlen : Z.length = P.length := by rw [hZ]; exact ord_len ht
  have hlt : ∀ k, k < Z.length → zed Z k < P.length := fun k hk => by
    have := zed_mem Z k hk
    rw [hZ] at this
    exact pre_lt (by rw [hZ]; exact this)
  have hnd : Z.Nodup := by rw [hZ]; exact pre_nodup ht _ _
  refine ⟨hT, h7, ht, hlen, hlt, ?_, ?_⟩
  · intro i j hij hj e
    rw [← zed_eq Z i (by omega), ← zed_eq Z j hj] at e
    have := (List.getElem_inj hnd).1 e
    omega
  by_cases hn : 0 < P.length
  · obtain ⟨r, hr, hp, hO⟩ := ord_root ht hn
    have hZr : Z = r :: preF P.length (pz P) (P.length + 1) (r : Int) := hZ.trans hO
    have hdn := (pre_dn ht (f := P.length + 1) hr hr (ht.way_self hr)).1
    have h0 : zed Z 0 = r := by rw [hZr]; rfl
    have hq : ∀ k, k + 1 < Z.length → ∃ q : Nat, pz P (zed Z (k + 1)) = q ∧ q ∈ way P.length (pz P) (zed Z k) := fun k hk => by
      have := Dn_at hdn k (by rw [hZr] at hk; simpa using hk)
      rwa [← hZr] at this
    have hanc : ∀ k, k < Z.length → ∀ a, a ∈ way P.length (pz P) (zed Z k) → ∃ j, j ≤ k ∧ zed Z j = a := by
      intro k
      induction k with
      | zero =>
        intro _ a ha
        rw [h0] at ha
        rcases (ht.mem_way hr).1 ha with e | ⟨e, _⟩
        · exact ⟨0, Nat.le_refl _, by rw [h0, e]⟩
        · omega
      | succ k ih =>
        intro hk a ha
        obtain ⟨q, hq1, hq2⟩ := hq k hk
        rcases (ht.mem_way (hlt _ hk)).1 ha with e | ⟨_, e⟩
        · exact ⟨k + 1, Nat.le_refl _, e.symm⟩
        · rw [hq1, Int.toNat_natCast] at e
          obtain ⟨j, hj, he⟩ := ih (by omega) a (ht.way_trans _ (hlt k (by omega)) q a hq2 e)
          exact ⟨j, by omega, he⟩
    refine ⟨fun _ => by rw [h0]; exact hp, fun k hk => ?_⟩
    obtain ⟨q, hq1, hq2⟩ := hq k hk
    exact ⟨q, hq1, hq2, hanc k (by omega) q hq2⟩
  · exact ⟨fun h => by omega, fun k hk => by omega⟩
end Go.Proofs.Ytkenbmelhfhidaa
