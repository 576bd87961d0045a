/- Words of 32 bits as sets of vertices. Plain: no program in sight. -/
import Derived.Test.YtkenbmelhfhidaaEd
namespace Go.Proofs.Ytkenbmelhfhidaa

/-- Has the set the vertex? -/
def hv (s : BitVec 32) (v : Nat) : Prop := s.getLsbD v = true
instance (s : BitVec 32) (v : Nat) : Decidable (hv s v) := inferInstanceAs (Decidable (_ = true))
theorem hv_lt {s : BitVec 32} {v : Nat} (h : hv s v) : v < 32 := by
  rcases Nat.lt_or_ge v 32 with c | c
  · exact c
  · unfold hv at h; rw [BitVec.getLsbD_of_ge _ _ c] at h; cases h
theorem hv_zero (v : Nat) : ¬ hv 0#32 v := by simp [hv]
theorem hv_and (a b : BitVec 32) (v : Nat) : hv (a &&& b) v ↔ hv a v ∧ hv b v := by simp [hv]
theorem hv_or (a b : BitVec 32) (v : Nat) : hv (a ||| b) v ↔ hv a v ∨ hv b v := by simp [hv]
theorem hv_andNot (a b : BitVec 32) (v : Nat) : hv (a &&& ~~~b) v ↔ hv a v ∧ ¬ hv b v := by
  constructor
  · intro h
    have hl := hv_lt h
    unfold hv at h ⊢
    rw [BitVec.getLsbD_and, BitVec.getLsbD_not, Bool.and_eq_true] at h
    refine ⟨h.1, fun c => ?_⟩
    rw [c] at h; simp at h
  · rintro ⟨h1, h2⟩
    have hl := hv_lt h1
    unfold hv at h1 h2 ⊢
    rw [BitVec.getLsbD_and, BitVec.getLsbD_not, h1, (Bool.not_eq_true _).mp h2, decide_eq_true hl]; rfl
theorem hv_ext {a b : BitVec 32} (h : ∀ v, hv a v ↔ hv b v) : a = b := by
  apply BitVec.eq_of_getLsbD_eq
  intro i _
  have := h i
  unfold hv at this
  rw [Bool.eq_iff_iff]; exact this
theorem ni {a b : Nat} : (a : Int) = (b : Int) ↔ a = b := Int.ofNat_inj
theorem ne_up {a b : Nat} (h : a ≠ b) : (a : Int) ≠ (b : Int) := fun e => h (ni.1 e)
theorem ne_dn {a b : Nat} (h : (a : Int) ≠ (b : Int)) : a ≠ b := fun e => h (ni.2 e)
/-- How many there are below n. -/
def cntB (p : Nat → Bool) : Nat → Nat
  | 0 => 0
  | n + 1 => cntB p n + if p n then 1 else 0
theorem cntB_congr {p q : Nat → Bool} : ∀ {n : Nat}, (∀ i, i < n → p i = q i) → cntB p n = cntB q n
  | 0, _ => rfl
  | n + 1, h => by
    unfold cntB
    rw [cntB_congr fun i hi => h i (by omega), h n (by omega)]
theorem cntB_set {p : Nat → Bool} {j : Nat} (hj : p j = false) : ∀ {n : Nat}, j < n → cntB (fun i => if i = j then true else p i) n = cntB p n + 1
  | n + 1, h => by
    unfold cntB
    by_cases e : n = j
    · subst e
      rw [cntB_congr (q := p) fun i hi => if_neg (by omega), if_pos rfl, hj]
      simp
    · rw [cntB_set hj (n := n) (by omega), if_neg e]
      omega
theorem cntB_le (p : Nat → Bool) : ∀ n, cntB p n ≤ n
  | 0 => Nat.le_refl _
  | n + 1 => by unfold cntB; have := cntB_le p n; split <;> omega

theorem cntB_none {b : Nat → Bool} (h : ∀ i, b i = false) : ∀ n, cntB b n = 0
  | 0 => rfl
  | n + 1 => by unfold cntB; rw [cntB_none h n, h n]; rfl
theorem cntB_true : ∀ n, cntB (fun _ => true) n = n
  | 0 => rfl
  | n + 1 => by unfold cntB; rw [cntB_true n]; rfl
theorem cntB_mono {p q : Nat → Bool} : ∀ {n : Nat}, (∀ i, i < n → p i = true → q i = true) → cntB p n ≤ cntB q n
  | 0, _ => Nat.le_refl _
  | n + 1, h => by
    unfold cntB
    have h1 := cntB_mono (p := p) (q := q) (n := n) fun i hi => h i (by omega)
    have h2 := h n (by omega)
    cases hp : p n
    · simp; omega
    · rw [h2 hp]; simp; omega
theorem cntB_strict {p q : Nat → Bool} {j : Nat} (hq : q j = true) (hp : p j = false) : ∀ {n : Nat}, (∀ i, i < n → p i = true → q i = true) → j < n → cntB p n < cntB q n
  | n + 1, h, hj => by
    unfold cntB
    by_cases e : n = j
    · subst e
      have h1 := cntB_mono (p := p) (q := q) (n := n) fun i hi => h i (by omega)
      rw [hq, hp]; simp; omega
    · have h1 := cntB_strict hq hp (n := n) (fun i hi => h i (by omega)) (by omega)
      have h2 := h n (by omega)
      cases hpn : p n
      · simp; omega
      · rw [h2 hpn]; simp; omega
theorem cntB_lt {p : Nat → Bool} {n j : Nat} (hj : j < n) (hp : p j = false) : cntB p n < n := by
  have := cntB_strict (q := fun _ => true) rfl hp (n := n) (fun _ _ _ => rfl) hj
  rwa [cntB_true] at this
theorem cntB_shift (p : Nat → Bool) : ∀ n, cntB p (n + 1) = (if p 0 then 1 else 0) + cntB (fun k => p (k + 1)) n
  | 0 => by simp [cntB]
  | n + 1 => by
    have h1 := cntB_shift p n
    have h2 : cntB p (n + 1 + 1) = cntB p (n + 1) + if p (n + 1) then 1 else 0 := rfl
    have h3 : cntB (fun k => p (k + 1)) (n + 1) = cntB (fun k => p (k + 1)) n + if p (n + 1) then 1 else 0 := rfl
    rw [h2, h3, h1, Nat.add_assoc]
end Go.Proofs.Ytkenbmelhfhidaa
