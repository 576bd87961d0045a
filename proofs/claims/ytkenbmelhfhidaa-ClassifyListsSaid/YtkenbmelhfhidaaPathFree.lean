/- The plain law of ClassifyLists: what a free path is, as the document and as the program look for it. -/
import Derived.Test.YtkenbmelhfhidaaKnotLaw
import Derived.Test.YtkenbmelhfhidaaCuts
namespace Go.Proofs.Ytkenbmelhfhidaa

def stepOk (V : Int) (E : List (BitVec 32)) (h : BitVec 32) (P : List Int) (i : Nat) : Prop :=
  0 ≤ pz P i ∧ pz P i < V ∧ inB h (pz P i) = (decide (i = 0) || decide (i + 1 = P.length)) ∧ ∀ j, j < i → pz P j ≠ pz P i ∧ nearB E (pz P j) (pz P i) = decide (j + 1 = i)
structure FreeIs (V : Int) (E : List (BitVec 32)) (h : BitVec 32) (P : List Int) : Prop where
  valid : validB V E = true
  three : 3 ≤ P.length
  few : P.length ≤ 30
  step : ∀ i, i < P.length → stepOk V E h P i
theorem nearB_both {E : List (BitVec 32)} {v u : Nat} (h : v ≠ u) : nearB E v u = true ↔ ∃ e ∈ E, hv e v ∧ hv e u := by
  unfold nearB
  simp only [Bool.and_eq_true, decide_eq_true_eq, List.any_eq_true, inB_nat]
  exact ⟨fun ⟨_, e, he, a⟩ => ⟨e, he, a⟩, fun ⟨e, he, a⟩ => ⟨by omega, e, he, a⟩⟩
theorem nearB_symm' (E : List (BitVec 32)) (v u : Int) : nearB E v u = nearB E u v := by
  unfold nearB
  rw [Bool.eq_iff_iff]
  simp only [Bool.and_eq_true, decide_eq_true_eq, List.any_eq_true]
  exact ⟨fun ⟨a, e, he, b, c⟩ => ⟨Ne.symm a, e, he, c, b⟩, fun ⟨a, e, he, b, c⟩ => ⟨Ne.symm a, e, he, c, b⟩⟩
theorem FreeIs.nojt {V : Int} {E : List (BitVec 32)} {head : BitVec 32} {P : List Int} (h : FreeIs V E (head &&& covB E) P) : ¬ ∃ p, JT (extE E head) p := by
  obtain ⟨_, v30, _, _⟩ := validB_of h.valid
  have hz : ∀ i, i < P.length → pz P i = ((pz P i).toNat : Nat) := fun i hi => by have := (h.step i hi).1; omega
  have hne : ∀ i j, i < P.length → j < i → (pz P j).toNat ≠ (pz P i).toNat := fun i j hi hj e => ((h.step i hi).2.2.2 j hj).1 (by rw [hz i hi, hz j (by omega), e])
  obtain ⟨R, k⟩ := free_knot (E := E) (h := head &&& covB E) (n := P.length) (f := fun i => (pz P i).toNat) h.three (fun i hi => by have := (h.step i hi).2.1; have := (h.step i hi).1; show (pz P i).toNat < 32; omega)
    (fun i j hi hj e => by
      rcases Nat.lt_trichotomy i j with c | c | c
      · exact absurd e (hne j i hj c)
      · exact c
      · exact absurd e.symm (hne i j hi c))
    (fun i hi => by
      have := (h.step i hi).2.2.1
      rw [hz i hi, inB_nat] at this
      show (head &&& covB E).getLsbD (pz P i).toNat = true ↔ _
      rw [this]; simp)
    (fun i j hj hi => by
      have := ((h.step i hi).2.2.2 j hj).2
      rw [hz i hi, hz j (by omega)] at this
      rw [← nearB_both (hne i j hi hj), this, decide_eq_true_eq])
  exact knot_no_jt k

/-! ### What has been seen -/
def sn (P : List Int) : Nat → BitVec 32
  | 0 => 0#32
  | k + 1 => sn P k ||| 1#32 <<< (pz P k).toNat
theorem hv_sn {P : List Int} (v : Nat) : ∀ {k : Nat}, (∀ i, i < k → (pz P i).toNat < 32) → (hv (sn P k) v ↔ ∃ j, j < k ∧ v = (pz P j).toNat)
  | 0, _ => ⟨fun h => absurd h (hv_zero v), fun ⟨j, hj, _⟩ => absurd hj (Nat.not_lt_zero _)⟩
  | k + 1, h => by
    rw [show sn P (k + 1) = sn P k ||| 1#32 <<< (pz P k).toNat from rfl, hv_or, hv_shl1 (h k (Nat.lt_succ_self k)), hv_sn v fun i hi => h i (by omega)]
    constructor
    · rintro (⟨j, hj, e⟩ | e)
      · exact ⟨j, by omega, e⟩
      · exact ⟨k, by omega, e⟩
    · rintro ⟨j, hj, e⟩
      rcases Nat.lt_or_ge j k with c | c
      · exact .inl ⟨j, c, e⟩
      · obtain rfl : j = k := by omega
        exact .inr e
theorem size_add {s : BitVec 32} {a : Nat} (ha : a < 32) (h : ¬ hv s a) : sizeW (s ||| 1#32 <<< a) = sizeW s + 1 := by
  unfold sizeW
  rw [← cntB_set (p := fun v => s.getLsbD v) (j := a) (n := 32) (by show s.getLsbD a = false; cases d : s.getLsbD a; rfl; exact absurd d h) ha]
  refine cntB_congr fun i hi => ?_
  show (s ||| 1#32 <<< a).getLsbD i = if i = a then true else s.getLsbD i
  have := hv_or s (1#32 <<< a) i
  rw [hv_shl1 ha] at this
  unfold hv at this
  by_cases c : i = a
  · rw [if_pos c]; exact this.2 (.inr c)
  · rw [if_neg c, Bool.eq_iff_iff, this]
    exact ⟨fun z => z.resolve_right c, .inl⟩
theorem cntB_bound {p : Nat → Bool} {m : Nat} (h : ∀ i, m ≤ i → p i = false) : ∀ n, cntB p n ≤ m
  | 0 => Nat.zero_le _
  | n + 1 => by
    unfold cntB
    have h1 := cntB_bound h n
    by_cases c : p n = true
    · have h2 : n < m := by
        rcases Nat.lt_or_ge n m with d | d
        · exact d
        · rw [h n d] at c; cases c
      have h3 := cntB_le p n
      rw [if_pos c]; omega
    · rw [if_neg c]; omega
theorem sn_size {V : Int} {E : List (BitVec 32)} {h : BitVec 32} {P : List Int} (hV : V ≤ 30) : ∀ {k : Nat}, (∀ i, i < k → stepOk V E h P i) → sizeW (sn P k) = k
  | 0, _ => by unfold sizeW sn; exact cntB_none (fun i => by simp) 32
  | k + 1, hs => by
    have hlt : ∀ i, i < k + 1 → (pz P i).toNat < 32 := fun i hi => by have := hs i hi; have h1 := this.1; have h2 := this.2.1; omega
    rw [show sn P (k + 1) = sn P k ||| 1#32 <<< (pz P k).toNat from rfl, size_add (hlt k (Nat.lt_succ_self k)) ?_, sn_size hV fun i hi => hs i (by omega)]
    rw [hv_sn _ fun i hi => hlt i (by omega)]
    rintro ⟨j, hj, e⟩
    have h1 := (hs j (by omega)).1
    have h2 := (hs k (Nat.lt_succ_self k)).1
    exact ((hs k (Nat.lt_succ_self k)).2.2.2 j hj).1 (by omega)
theorem sn_few {V : Int} {E : List (BitVec 32)} {h : BitVec 32} {P : List Int} (hV : V ≤ 30) {k : Nat} (hs : ∀ i, i < k → stepOk V E h P i) : k ≤ 30 := by
  rw [← sn_size hV hs]
  refine cntB_bound (fun i hi => ?_) 32
  cases d : (sn P k).getLsbD i
  · rfl
  · have hlt : ∀ i, i < k → (pz P i).toNat < 32 := fun i hi => by have := hs i hi; have h1 := this.1; have h2 := this.2.1; omega
    obtain ⟨j, hj, e⟩ := (hv_sn i hlt).1 d
    have h1 := (hs j hj).1
    have h2 := (hs j hj).2.1
    omega
/-- What stands right ahead. -/
def ahead (P : List Int) (k : Nat) : BitVec 32 := if k = 0 then 0#32 else 1#32 <<< (pz P (k - 1)).toNat
theorem near_ahead {V : Int} {E : List (BitVec 32)} {h : BitVec 32} {P : List Int} {k : Nat} (hV : V ≤ 30) (hs : ∀ i, i < k → stepOk V E h P i) (h0 : 0 ≤ pz P k) :
    nearS E (pz P k) &&& sn P k = ahead P k ↔ ∀ j, j < k → nearB E (pz P j) (pz P k) = decide (j + 1 = k) := by
  have hlt : ∀ i, i < k → (pz P i).toNat < 32 := fun i hi => by have := hs i hi; have h1 := this.1; have h2 := this.2.1; omega
  have hz : ∀ i, i < k → pz P i = ((pz P i).toNat : Nat) := fun i hi => by have := (hs i hi).1; omega
  have hk : pz P k = ((pz P k).toNat : Nat) := by omega
  have inj : ∀ i j, i < k → j < k → (pz P i).toNat = (pz P j).toNat → i = j := fun i j hi hj e => by
    rcases Nat.lt_trichotomy i j with c | c | c
    · exact absurd (by rw [hz i hi, hz j hj, e]) ((hs j hj).2.2.2 i c).1
    · exact c
    · exact absurd (by rw [hz i hi, hz j hj, e]) ((hs i hi).2.2.2 j c).1
  have hah : ∀ v, hv (ahead P k) v ↔ ∃ j, j + 1 = k ∧ v = (pz P j).toNat := fun v => by
    unfold ahead
    by_cases c : k = 0
    · rw [if_pos c]
      exact ⟨fun z => absurd z (hv_zero v), fun ⟨j, hj, _⟩ => by omega⟩
    · rw [if_neg c, hv_shl1 (hlt (k - 1) (by omega))]
      exact ⟨fun e => ⟨k - 1, by omega, e⟩, fun ⟨j, hj, e⟩ => by rw [e, show j = k - 1 by omega]⟩
  have hnear : ∀ j, j < k → (hv (nearS E (pz P k)) (pz P j).toNat ↔ nearB E (pz P j) (pz P k) = true) := fun j hj => by
    have e := nearB_nearS E (pz P k).toNat (pz P j).toNat
    rw [← hk, inB_nat, ← hz j hj] at e
    unfold hv
    rw [e, nearB_symm']
  constructor
  · intro he j hj
    have e := hah (pz P j).toNat
    rw [← he, hv_and, hnear j hj, hv_sn _ hlt] at e
    rw [Bool.eq_iff_iff, decide_eq_true_eq]
    constructor
    · intro z
      obtain ⟨m, hm, e2⟩ := e.1 ⟨z, j, hj, rfl⟩
      rw [inj j m hj (by omega) e2]; exact hm
    · intro z
      exact (e.2 ⟨j, z, rfl⟩).1
  · intro he
    apply hv_ext
    intro v
    rw [hv_and, hah, hv_sn _ hlt]
    constructor
    · rintro ⟨a, j, hj, rfl⟩
      rw [hnear j hj, he j hj, decide_eq_true_eq] at a
      exact ⟨j, a, rfl⟩
    · rintro ⟨j, hj, rfl⟩
      exact ⟨by rw [hnear j (by omega), he j (by omega), decide_eq_true_eq]; exact hj, j, by omega, rfl⟩
end Go.Proofs.Ytkenbmelhfhidaa
