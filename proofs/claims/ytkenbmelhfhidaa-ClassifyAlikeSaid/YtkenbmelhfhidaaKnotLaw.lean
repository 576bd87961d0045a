/- The plain laws of ClassifyKnots and ClassifyLists: a knot, and a free path as a knot of the extended graph. -/
import Derived.Test.YtkenbmelhfhidaaClassLaw2
import Derived.Test.YtkenbmelhfhidaaBC
namespace Go.Proofs.Ytkenbmelhfhidaa

def mt (R : List (BitVec 32)) (k v : Nat) : Nat := cntB (fun i => (ed R i).getLsbD v) k
theorem mt_step (R : List (BitVec 32)) (k v : Nat) : mt R (k + 1) v = mt R k v + if (ed R k).getLsbD v then 1 else 0 := rfl
theorem or_mt (R : List (BitVec 32)) (v : Nat) : ∀ k, hv (orTo R k) v ↔ 1 ≤ mt R k v
  | 0 => by simp [orTo, mt, cntB, hv]
  | k + 1 => by
    rw [show orTo R (k + 1) = orTo R k ||| ed R k from rfl, hv_or, or_mt R v k, mt_step]
    unfold hv
    by_cases c : (ed R k).getLsbD v = true <;> simp [c]
/-- What stands in two of them. -/
def twTo (R : List (BitVec 32)) : Nat → BitVec 32
  | 0 => 0#32
  | k + 1 => twTo R k ||| (orTo R k &&& ed R k)
theorem tw_mt (R : List (BitVec 32)) (v : Nat) : ∀ k, hv (twTo R k) v ↔ 2 ≤ mt R k v
  | 0 => by simp [twTo, mt, cntB, hv]
  | k + 1 => by
    rw [show twTo R (k + 1) = twTo R k ||| (orTo R k &&& ed R k) from rfl, hv_or, hv_and, tw_mt R v k, or_mt R v k, mt_step]
    unfold hv
    by_cases c : (ed R k).getLsbD v = true
    · simp [c]; omega
    · simp [c]
theorem tw_iff (R : List (BitVec 32)) (n : Nat) : twTo R n = orTo R n ↔ ∀ v, v < 32 → mt R n v ≠ 1 := by
  constructor
  · intro h v _ h1
    have a := tw_mt R v n
    rw [h, or_mt] at a
    omega
  · intro h
    apply hv_ext
    intro v
    rw [tw_mt, or_mt]
    rcases Nat.lt_or_ge v 32 with c | c
    · have := h v c; omega
    · have h1 : ¬ hv (orTo R n) v := fun d => by have := hv_lt d; omega
      have h2 : ¬ hv (twTo R n) v := fun d => by have := hv_lt d; omega
      rw [or_mt] at h1
      rw [tw_mt] at h2
      exact ⟨fun d => absurd d h2, fun d => absurd d h1⟩

structure KnotP (E R : List (BitVec 32)) : Prop where
  some : 0 < R.length
  nz : ∀ i, i < R.length → ed R i ≠ 0#32
  anti : ∀ i j, i < R.length → j < R.length → i ≠ j → subB (ed R i) (ed R j) = false
  twice : ∀ v, v < 32 → mt R R.length v ≠ 1
  edge : ∀ i, i < R.length → ∃ j, j < E.length ∧ ed E j &&& orTo R R.length = ed R i
  part : ∀ j, j < E.length → ∃ i, i < R.length ∧ subB (ed E j &&& orTo R R.length) (ed R i) = true
theorem inR_or (R : List (BitVec 32)) (v : Nat) : inR R v ↔ hv (orTo R R.length) v := by
  rw [hv_orTo]
  constructor
  · rintro ⟨a, ha, h⟩
    obtain ⟨i, hi, rfl⟩ := mem_ed ha
    exact ⟨i, hi, h⟩
  · rintro ⟨i, hi, h⟩
    exact ⟨_, ed_mem R i hi, h⟩
theorem KnotP.knot {E R : List (BitVec 32)} (h : KnotP E R) : Knot E R := by
  refine ⟨?_, fun i j hi hj hs => ?_, fun v hvR => ?_, fun a ha => ?_, fun j hj => ?_⟩
  · have h0 := h.nz 0 h.some
    rw [Ne, eq_zero_iff, Classical.not_forall] at h0
    obtain ⟨v, hh⟩ := h0
    exact ⟨v, _, ed_mem R 0 h.some, Classical.not_not.1 hh⟩
  · apply Classical.byContradiction
    intro c
    have := h.anti i j hi hj c
    rw [(subB_iff _ _).2 hs] at this
    cases this
  · have h1 := (or_mt R v R.length).1 ((inR_or R v).1 hvR)
    have h2 := h.twice v (by obtain ⟨a, _, hh⟩ := hvR; exact hv_lt hh)
    apply Classical.byContradiction
    intro c
    have h3 : mt R R.length v ≤ 1 := cntB_one fun i j hi hj a b => Classical.byContradiction fun d => c ⟨i, j, hi, hj, d, a, b⟩
    omega
  · obtain ⟨i, hi, rfl⟩ := mem_ed ha
    obtain ⟨j, hj, e⟩ := h.edge i hi
    exact ⟨j, hj, fun v => by rw [← e, hv_and, inR_or]⟩
  · obtain ⟨i, hi, hs⟩ := h.part j hj
    exact ⟨i, hi, fun v h1 h2 => (subB_iff _ _).1 hs v ((hv_and _ _ _).2 ⟨h1, (inR_or R v).1 h2⟩)⟩

/-! ### A free path -/
def nx (n i : Nat) : Nat := if i + 1 < n then i + 1 else 0
def pr (a b : Nat) : BitVec 32 := 1#32 <<< a ||| 1#32 <<< b
theorem hv_shl1 {a : Nat} (ha : a < 32) (v : Nat) : hv (1#32 <<< a) v ↔ v = a := by
  unfold hv
  rw [BitVec.getLsbD_shiftLeft]
  constructor
  · intro h
    simp at h
    obtain ⟨⟨h1, h2⟩, h3⟩ := h
    omega
  · rintro rfl
    simp [ha]
theorem hv_pr {a b : Nat} (ha : a < 32) (hb : b < 32) (v : Nat) : hv (pr a b) v ↔ v = a ∨ v = b := by
  unfold pr
  rw [hv_or, hv_shl1 ha, hv_shl1 hb]
theorem ed_wrow (n : Nat) (f : Nat → BitVec 32) {i : Nat} (h : i < n) : ed (wrow n f) i = f i := by
  unfold ed wrow
  simp [List.getD, h]
theorem free_knot {E : List (BitVec 32)} {h : BitVec 32} {n : Nat} {f : Nat → Nat} (hn : 3 ≤ n) (hlt : ∀ i, i < n → f i < 32) (inj : ∀ i j, i < n → j < n → f i = f j → i = j)
    (hh : ∀ i, i < n → (hv h (f i) ↔ i = 0 ∨ i + 1 = n)) (adj : ∀ i j, j < i → i < n → ((∃ e ∈ E, hv e (f j) ∧ hv e (f i)) ↔ j + 1 = i)) : ∃ R, Knot (E ++ [h]) R := by
  have hl : (E ++ [h]).length = E.length + 1 := by simp
  let R := wrow n fun i => pr (f i) (f (nx n i))
  have hR : R.length = n := wrow_length n _
  have nxl : ∀ i, i < n → nx n i < n := fun i hi => by unfold nx; split <;> omega
  have hRv : ∀ i, i < n → ∀ v, hv (ed R i) v ↔ v = f i ∨ v = f (nx n i) := fun i hi v => by
    show hv (ed (wrow n _) i) v ↔ _
    rw [ed_wrow n _ hi]
    exact hv_pr (hlt i hi) (hlt _ (nxl i hi)) v
  have hin : ∀ v, inR R v ↔ ∃ i, i < n ∧ v = f i := fun v => by
    constructor
    · rintro ⟨a, ha, hv1⟩
      obtain ⟨i, hi, rfl⟩ := mem_ed ha
      rw [hR] at hi
      rcases (hRv i hi v).1 hv1 with e | e
      · exact ⟨i, hi, e⟩
      · exact ⟨_, nxl i hi, e⟩
    · rintro ⟨i, hi, e⟩
      exact ⟨_, ed_mem R i (by omega), (hRv i hi v).2 (.inl e)⟩
  -- two vertices of an edge stand beside each other
  have beside : ∀ e ∈ E, ∀ i j, i < n → j < n → hv e (f i) → hv e (f j) → i = j ∨ i + 1 = j ∨ j + 1 = i := fun e he i j hi hj a b => by
    rcases Nat.lt_trichotomy i j with c | c | c
    · exact .inr (.inl ((adj j i c hj).1 ⟨e, he, a, b⟩))
    · exact .inl c
    · exact .inr (.inr ((adj i j c hi).1 ⟨e, he, b, a⟩))
  refine ⟨R, ⟨f 0, (hin _).2 ⟨0, by omega, rfl⟩⟩, fun i j hi hj hs => ?_, fun v hvR => ?_, fun a ha => ?_, fun j hj => ?_⟩
  · rw [hR] at hi hj
    have h1 := (hRv j hj _).1 (hs _ ((hRv i hi _).2 (.inl rfl)))
    have h2 := (hRv j hj _).1 (hs _ ((hRv i hi _).2 (.inr rfl)))
    have h1' : i = j ∨ i = nx n j := h1.imp (inj i j hi hj) (inj i _ hi (nxl j hj))
    have h2' : nx n i = j ∨ nx n i = nx n j := h2.imp (inj _ j (nxl i hi) hj) (inj _ _ (nxl i hi) (nxl j hj))
    unfold nx at h1' h2'
    split at h1' <;> split at h2' <;> omega
  · obtain ⟨i, hi, rfl⟩ := (hin v).1 hvR
    have hp : (if i = 0 then n - 1 else i - 1) < n := by split <;> omega
    have hpn : nx n (if i = 0 then n - 1 else i - 1) = i := by unfold nx; split <;> split <;> omega
    refine ⟨i, if i = 0 then n - 1 else i - 1, by omega, by omega, by split <;> omega, (hRv i hi _).2 (.inl rfl), (hRv _ hp _).2 (.inr (by rw [hpn]))⟩
  · obtain ⟨i, hi, rfl⟩ := mem_ed ha
    rw [hR] at hi
    by_cases c : i + 1 < n
    · have hnx : nx n i = i + 1 := if_pos c
      obtain ⟨e, he, a1, a2⟩ := (adj (i + 1) i (by omega) c).2 rfl
      obtain ⟨j, hj, rfl⟩ := mem_ed he
      refine ⟨j, by omega, fun v => ?_⟩
      rw [ed_app, if_pos hj, hRv i hi, hnx, hin]
      constructor
      · rintro (rfl | rfl)
        · exact ⟨a1, i, hi, rfl⟩
        · exact ⟨a2, i + 1, c, rfl⟩
      · rintro ⟨b, k, hk, rfl⟩
        rcases beside _ he k i hk hi b a1 with d | d | d
        · exact .inl (by rw [d])
        · rcases beside _ he k (i + 1) hk c b a2 with d2 | d2 | d2 <;> omega
        · exact .inr (by rw [d])
    · have hnx : nx n i = 0 := if_neg c
      refine ⟨E.length, by omega, fun v => ?_⟩
      rw [ed_app, if_neg (Nat.lt_irrefl _), if_pos rfl, hRv i hi, hnx, hin]
      constructor
      · rintro (rfl | rfl)
        · exact ⟨(hh i hi).2 (.inr (by omega)), i, hi, rfl⟩
        · exact ⟨(hh 0 (by omega)).2 (.inl rfl), 0, by omega, rfl⟩
      · rintro ⟨b, k, hk, rfl⟩
        rcases (hh k hk).1 b with d | d
        · exact .inr (by rw [d])
        · exact .inl (by rw [show k = i by omega])
  · rw [hl] at hj
    by_cases c : j < E.length
    · rw [ed_app, if_pos c]
      have he := ed_mem E j c
      by_cases h2 : ∃ k, k + 1 < n ∧ hv (ed E j) (f k) ∧ hv (ed E j) (f (k + 1))
      · obtain ⟨k, hk, a1, a2⟩ := h2
        have hnx : nx n k = k + 1 := if_pos hk
        refine ⟨k, by omega, fun v b hvR => ?_⟩
        obtain ⟨m, hm, rfl⟩ := (hin v).1 hvR
        rw [hRv k (by omega), hnx]
        rcases beside _ he m k hm (by omega) b a1 with d | d | d
        · exact .inl (by rw [d])
        · rcases beside _ he m (k + 1) hm hk b a2 with d2 | d2 | d2 <;> omega
        · exact .inr (by rw [d])
      · by_cases h3 : ∃ k, k < n ∧ hv (ed E j) (f k)
        · obtain ⟨k, hk, a1⟩ := h3
          refine ⟨k, by omega, fun v b hvR => ?_⟩
          obtain ⟨m, hm, rfl⟩ := (hin v).1 hvR
          rw [hRv k hk]
          rcases beside _ he m k hm hk b a1 with d | d | d
          · exact .inl (by rw [d])
          · subst d; exact absurd ⟨m, by omega, b, a1⟩ h2
          · subst d; exact absurd ⟨k, by omega, a1, b⟩ h2
        · refine ⟨0, by omega, fun v b hvR => ?_⟩
          obtain ⟨m, hm, rfl⟩ := (hin v).1 hvR
          exact absurd ⟨m, hm, b⟩ h3
    · rw [ed_app, if_neg c, if_pos (by omega)]
      refine ⟨n - 1, by omega, fun v b hvR => ?_⟩
      obtain ⟨m, hm, rfl⟩ := (hin v).1 hvR
      have hnx : nx n (n - 1) = 0 := if_neg (by omega)
      rw [hRv (n - 1) (by omega), hnx]
      rcases (hh m hm).1 b with d | d
      · exact .inr (by rw [d])
      · exact .inl (by rw [show m = n - 1 by omega])
end Go.Proofs.Ytkenbmelhfhidaa
