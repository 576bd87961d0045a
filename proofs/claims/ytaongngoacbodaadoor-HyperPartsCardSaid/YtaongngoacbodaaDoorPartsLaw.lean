/- The plain law of HyperParts: how a component is reached from its first edge. No program in sight. -/
import Derived.Test.YtaongngoacbodaaDoorCompLaw
import Derived.Test.YtaongngoacbodaaDoorBits
namespace Go.Proofs.YtaongngoacbodaaDoor

structure PI (E : List (BitVec 32)) (f r : Nat) (b : Nat → Bool) (s : BitVec 32) : Prop where
  sub : ∀ i, i < E.length → b i = true → Conn E f i
  set : ∀ v, s.getLsbD v = true ↔ ∃ i, i < E.length ∧ b i = true ∧ (ed E i).getLsbD v = true
  low : ∀ m x, m ≤ r → WalkN E m f x → b x = true
structure PM (E : List (BitVec 32)) (f r : Nat) (b : Nat → Bool) (s : BitVec 32) (j : Nat) : Prop where
  sub : ∀ i, i < E.length → b i = true → Conn E f i
  set : ∀ v, s.getLsbD v = true ↔ ∃ i, i < E.length ∧ b i = true ∧ (ed E i).getLsbD v = true
  low : ∀ m x, m ≤ r → WalkN E m f x → b x = true
  done : ∀ x, x < j → ∀ m, m ≤ r + 1 → WalkN E m f x → b x = true
theorem PI.start {E : List (BitVec 32)} {f : Nat} (hf : f < E.length) : PI E f 0 (fun i => decide (i = f)) (ed E f) := by
  refine ⟨fun i _ hb => ?_, fun v => ?_, fun m x hm hw => ?_⟩
  · obtain rfl : i = f := by simpa using hb
    exact conn_refl _ _
  · constructor
    · intro h; exact ⟨f, hf, by simp, h⟩
    · rintro ⟨i, _, hb, h⟩
      obtain rfl : i = f := by simpa using hb
      exact h
  · obtain rfl : m = 0 := by omega
    have : f = x := hw
    simp [this]
theorem PI.mid {E : List (BitVec 32)} {f r : Nat} {b : Nat → Bool} {s : BitVec 32} (h : PI E f r b s) : PM E f r b s 0 := ⟨h.sub, h.set, h.low, fun x hx => by omega⟩
theorem PM.reach {E : List (BitVec 32)} {f r j : Nat} {b : Nat → Bool} {s : BitVec 32} (h : PM E f r b s j) (hf : f < E.length) (hj : j < E.length) {m : Nat} (hm : m ≤ r + 1) (hw : WalkN E m f j) : b j = true ∨ meetB s (ed E j) = true := by
  cases m with
  | zero => exact .inl (h.low 0 j (Nat.zero_le _) hw)
  | succ m =>
    obtain ⟨k, hk, hn⟩ := hw
    have hb := h.low m k (by omega) hk
    obtain ⟨v, h1, h2⟩ := (meetB_iff _ _).1 hn.2.2
    exact .inr ((meetB_iff _ _).2 ⟨v, (h.set v).2 ⟨k, hn.1, hb, h1⟩, h2⟩)
theorem PM.skip {E : List (BitVec 32)} {f r j : Nat} {b : Nat → Bool} {s : BitVec 32} (h : PM E f r b s j) (hf : f < E.length) (hj : j < E.length) (hc : b j = true ∨ meetB s (ed E j) = false ∨ ¬ Conn E f j) : PM E f r b s (j + 1) := by
  refine ⟨h.sub, h.set, h.low, fun x hx m hm hw => ?_⟩
  rcases Nat.lt_or_ge x j with d | d
  · exact h.done x d m hm hw
  · obtain rfl : x = j := by omega
    rcases hc with c | c | c
    · exact c
    · rcases h.reach hf hj hm hw with a | a
      · exact a
      · rw [c] at a; cases a
    · exact absurd ⟨m, hw⟩ c
theorem PM.come {E : List (BitVec 32)} {f r j : Nat} {b : Nat → Bool} {s : BitVec 32} (h : PM E f r b s j) (hj : j < E.length) (hc : Conn E f j) : PM E f r (fun i => if i = j then true else b i) (s ||| ed E j) (j + 1) := by
  have up : ∀ x, b x = true → (if x = j then true else b x) = true := fun x hx => by split <;> first | rfl | exact hx
  refine ⟨fun i hi hb => ?_, fun v => ?_, fun m x hm hw => up x (h.low m x hm hw), fun x hx m hm hw => ?_⟩
  · by_cases e : i = j
    · subst e; exact hc
    · rw [if_neg e] at hb; exact h.sub i hi hb
  · rw [BitVec.getLsbD_or, Bool.or_eq_true, h.set v]
    constructor
    · rintro (⟨i, hi, hb, hv⟩ | hv)
      · exact ⟨i, hi, up i hb, hv⟩
      · exact ⟨j, hj, if_pos rfl, hv⟩
    · rintro ⟨i, hi, hb, hv⟩
      by_cases e : i = j
      · subst e; exact .inr hv
      · rw [if_neg e] at hb; exact .inl ⟨i, hi, hb, hv⟩
  · rcases Nat.lt_or_ge x j with d | d
    · exact up x (h.done x d m hm hw)
    · obtain rfl : x = j := by omega
      exact if_pos rfl
theorem PM.end_ {E : List (BitVec 32)} {f r : Nat} {b : Nat → Bool} {s : BitVec 32} (h : PM E f r b s E.length) (hf : f < E.length) : PI E f (r + 1) b s :=
  ⟨h.sub, h.set, fun m x hm hw => h.done x (walk_lt hw hf) m hm hw⟩
theorem PI.all {E : List (BitVec 32)} {f : Nat} {b : Nat → Bool} {s : BitVec 32} (h : PI E f E.length b s) (hf : f < E.length) : ∀ i, i < E.length → (b i = true ↔ Conn E f i) := fun i hi =>
  ⟨h.sub i hi, fun hc => by
    obtain ⟨m, hm, hw⟩ := conn_short hf hc
    exact h.low m i (by omega) hw⟩
end Go.Proofs.YtaongngoacbodaaDoor
