/- How the document's answer finds a tree: round by round, who comes to a root. No program in sight. -/
import Derived.Test.YtkenbmelhfhidaaJtLaw4
namespace Go.Proofs.Ytkenbmelhfhidaa

theorem rank_of_reach {n K : Nat} {p : Nat → Int} (_rng : ∀ i, i < n → -1 ≤ p i ∧ p i < n) (h : ∀ i : Nat, i < n → up p K i < 0) : ∃ d : Nat → Nat, ∀ i, i < n → 0 ≤ p i → d (p i).toNat < d i := by
  refine ⟨fun i => cntB (fun k => decide (0 ≤ up p k i)) K, fun i hi h0 => ?_⟩
  have h1 := h i hi
  have e1 : cntB (fun k => decide (0 ≤ up p k (i : Int))) (K + 1) = cntB (fun k => decide (0 ≤ up p k (i : Int))) K := by
    show _ + _ = _
    rw [if_neg (by simp; omega)]; rfl
  have e2 := cntB_shift (fun k => decide (0 ≤ up p k (i : Int))) K
  rw [e1, if_pos (by simp [up])] at e2
  have e3 : cntB (fun k => decide (0 ≤ up p (k + 1) (i : Int))) K = cntB (fun k => decide (0 ≤ up p k ((p i).toNat : Int))) K := by
    refine cntB_congr fun k _ => ?_
    rw [up_nat, Int.toNat_of_nonneg h0]
  rw [e3] at e2
  show cntB (fun k => decide (0 ≤ up p k ((p i).toNat : Int))) K < cntB (fun k => decide (0 ≤ up p k (i : Int))) K
  omega
theorem bound_all {n : Nat} {Q : Nat → Nat → Prop} (mono : ∀ i k m, k ≤ m → Q i k → Q i m) (h : ∀ i, i < n → ∃ k, Q i k) : ∃ K, ∀ i, i < n → Q i K := by
  induction n with
  | zero => exact ⟨0, fun i hi => by omega⟩
  | succ n ih =>
    obtain ⟨K, hK⟩ := ih fun i hi => h i (by omega)
    obtain ⟨k, hk⟩ := h n (by omega)
    refine ⟨K + k, fun i hi => ?_⟩
    rcases Nat.lt_or_ge i n with c | c
    · exact mono i K _ (by omega) (hK i c)
    · obtain rfl : i = n := by omega
      exact mono i k _ (by omega) hk
theorem up_ge {p : Nat → Int} {n : Nat} (rng : ∀ i, i < n → -1 ≤ p i ∧ p i < n) : ∀ (k : Nat) (i : Int), -1 ≤ i → i < n → -1 ≤ up p k i
  | 0, _, h, _ => h
  | k + 1, i, h, hi => by
    unfold up
    split
    · exact h
    · have := rng i.toNat (by omega)
      exact up_ge rng k _ this.1 this.2
/-- Where all come to a root, they do so in n steps. -/
theorem reach_all {n : Nat} {p : Nat → Int} (rng : ∀ i, i < n → -1 ≤ p i ∧ p i < n) (h : ∀ i : Nat, i < n → ∃ k, up p k i = -1) : ∀ i : Nat, i < n → up p n i = -1 := by
  obtain ⟨K, hK⟩ := bound_all (n := n) (Q := fun i k => up p k (i : Int) = -1) (fun i k m hm hq => by rw [up_more (by rw [hq]; omega) m hm]; exact hq) h
  obtain ⟨d, hd⟩ := rank_of_reach rng (K := K) fun i hi => by rw [hK i hi]; omega
  have hlt : ∀ i, i < n → cntB (fun j => decide (d j < d i)) n < n := fun i hi => cntB_lt hi (by simp)
  have hd' : ∀ i, i < n → 0 ≤ p i → cntB (fun j => decide (d j < d (p i).toNat)) n < cntB (fun j => decide (d j < d i)) n := fun i hi h0 => by
    have h1 := hd i hi h0
    have h2 := (rng i hi).2
    exact cntB_strict (j := (p i).toNat) (by simpa using h1) (by simp) (fun k _ hk => by
      have : d k < d (p i).toNat := by simpa using hk
      simp; omega) (by omega)
  have key : ∀ m i, i < n → cntB (fun j => decide (d j < d i)) n ≤ m → up p (m + 1) (i : Int) = -1 := by
    intro m
    induction m with
    | zero =>
      intro i hi hm
      have h1 := rng i hi
      by_cases c : p i = -1
      · rw [up_nat, c]; rfl
      · have := hd' i hi (by omega); omega
    | succ m ih =>
      intro i hi hm
      have h1 := rng i hi
      by_cases c : p i = -1
      · rw [up_nat, c]; exact up_neg p (by omega) _
      · have h2 := hd' i hi (by omega)
        have h3 := ih (p i).toNat (by omega) (by omega)
        rw [up_nat]
        rw [Int.toNat_of_nonneg (by omega)] at h3
        exact h3
  intro i hi
  have h1 := hlt i hi
  have h2 := key (n - 1) i hi (by omega)
  rwa [Nat.sub_add_cancel (by omega)] at h2

/-- After r rounds: who is in comes to a root; who comes to one in r steps is in. -/
structure GR (n : Nat) (p : Nat → Int) (r : Nat) (b : Nat → Bool) : Prop where
  sub : ∀ i : Nat, i < n → b i = true → ∃ k, up p k i = -1
  low : ∀ i : Nat, i < n → up p r i = -1 → b i = true
/-- In the midst of a round, at j. -/
structure GRM (n : Nat) (p : Nat → Int) (r j : Nat) (b : Nat → Bool) : Prop where
  sub : ∀ i : Nat, i < n → b i = true → ∃ k, up p k i = -1
  low : ∀ i : Nat, i < n → up p r i = -1 → b i = true
  done : ∀ i : Nat, i < n → i < j → up p (r + 1) i = -1 → b i = true
theorem GR.start (n : Nat) (p : Nat → Int) : GR n p 0 (fun _ => false) := ⟨(fun _ _ h => by cases h), fun i _ h => by have h : (i : Int) = -1 := h; omega⟩
theorem GR.mid {n r : Nat} {p : Nat → Int} {b : Nat → Bool} (h : GR n p r b) : GRM n p r 0 b := ⟨h.sub, h.low, fun i _ hi => by omega⟩
theorem GRM.end_ {n r : Nat} {p : Nat → Int} {b : Nat → Bool} (h : GRM n p r n b) : GR n p (r + 1) b := ⟨h.sub, fun i hi => h.done i hi hi⟩
theorem GRM.skip {n r j : Nat} {p : Nat → Int} {b : Nat → Bool} (h : GRM n p r j b) (rng : ∀ i, i < n → -1 ≤ p i ∧ p i < n) (hj : j < n) (hc : b j = true ∨ (p j ≠ -1 ∧ b (p j).toNat = false)) : GRM n p r (j + 1) b := by
  refine ⟨h.sub, h.low, fun i hi hij hu => ?_⟩
  rcases Nat.lt_or_ge i j with c | c
  · exact h.done i hi c hu
  · obtain rfl : i = j := by omega
    rcases hc with c | ⟨c1, c2⟩
    · exact c
    · have h1 := rng i hi
      rw [up_nat] at hu
      have := h.low (p i).toNat (by omega) (by rw [Int.toNat_of_nonneg (by omega)]; exact hu)
      rw [c2] at this; cases this
theorem GRM.come {n r j : Nat} {p : Nat → Int} {b : Nat → Bool} (h : GRM n p r j b) (rng : ∀ i, i < n → -1 ≤ p i ∧ p i < n) (hj : j < n) (hc : p j = -1 ∨ b (p j).toNat = true) : GRM n p r (j + 1) (updT b j true) := by
  have up_ : ∀ i, b i = true → updT b j true i = true := fun i hi => by unfold updT; split <;> first | rfl | exact hi
  refine ⟨fun i hi hb => ?_, fun i hi hu => up_ i (h.low i hi hu), fun i hi hij hu => ?_⟩
  · by_cases e : i = j
    · subst e
      have h1 := rng i hi
      by_cases c : p i = -1
      · exact ⟨1, by rw [up_nat, c]; rfl⟩
      · rcases hc with d | d
        · exact absurd d c
        · obtain ⟨k, hk⟩ := h.sub (p i).toNat (by omega) d
          rw [Int.toNat_of_nonneg (by omega)] at hk
          exact ⟨k + 1, by rw [up_nat]; exact hk⟩
    · unfold updT at hb; rw [if_neg e] at hb; exact h.sub i hi hb
  · rcases Nat.lt_or_ge i j with c | c
    · exact up_ i (h.done i hi c hu)
    · obtain rfl : i = j := by omega
      unfold updT; rw [if_pos rfl]
theorem cntB_all {p : Nat → Bool} {n : Nat} : cntB p n = n ↔ ∀ i, i < n → p i = true := by
  constructor
  · intro h i hi
    cases hp : p i
    · have := cntB_lt hi hp; omega
    · rfl
  · intro h
    rw [cntB_congr (q := fun _ => true) h, cntB_true]
theorem GR.all {n : Nat} {p : Nat → Int} {b : Nat → Bool} (h : GR n p n b) (rng : ∀ i, i < n → -1 ≤ p i ∧ p i < n) : cntB b n = n ↔ ∀ i : Nat, i < n → up p n i = -1 := by
  rw [cntB_all]
  constructor
  · intro ha; exact reach_all rng fun i hi => h.sub i hi (ha i hi)
  · intro ha i hi; exact h.low i hi (ha i hi)
theorem cntB_updT {b : Nat → Bool} {j n : Nat} (hj : j < n) (hb : b j = false) : cntB (updT b j true) n = cntB b n + 1 := cntB_set hb hj

end Go.Proofs.Ytkenbmelhfhidaa
