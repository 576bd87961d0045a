/- What the sets are that a removal leaves: the plain law of EarsStuck. No program in sight. -/
import Derived.Test.YtbgbjodehbcgiaaDoorBE
import Derived.Test.YtbgbjodehbcgiaaDoorBB
namespace Go.Proofs.YtbgbjodehbcgiaaDoor

theorem setsOf_mem {L : Lt} {a : BitVec 32} : a ∈ setsOf L ↔ a ≠ 0#32 ∧ ∃ x ∈ L, x.2 = a := by
  unfold setsOf
  rw [List.mem_filter, List.mem_map, bne_iff_ne]
  exact And.comm
/-- Neither is part of the other. -/
def Apart (a b : BitVec 32) : Prop := (¬ ∀ v, hv a v → hv b v) ∧ ¬ ∀ v, hv b v → hv a v
theorem Apart.symm {a b : BitVec 32} (h : Apart a b) : Apart b a := ⟨h.2, h.1⟩
theorem sets_apart {L : Lt} {keep : BitVec 32} (hs : Srt L) (st : Stuck L keep) : (setsOf L).Pairwise Apart := by
  unfold setsOf
  refine List.Pairwise.filter _ ?_
  rw [List.pairwise_map]
  refine List.Pairwise.imp_of_mem ?_ hs
  intro x y hx hy hlt
  refine ⟨fun h => ?_, fun h => ?_⟩
  · have e := st.anti hs hx hy h; rw [e] at hlt; omega
  · have e := st.anti hs hy hx h; rw [e] at hlt; omega
structure LeftIs (E : List (BitVec 32)) (keep : BitVec 32) (Z : List (BitVec 32)) : Prop where
  len : Z.length ≤ 7
  ne : ∀ i, i < Z.length → ed Z i ≠ 0#32
  inc : ∀ i, i + 1 < Z.length → (ed Z i).toNat < (ed Z (i + 1)).toNat
  anti : ∀ i j, i < Z.length → j < Z.length → i ≠ j → subB (ed Z i) (ed Z j) = false
  twice : ∀ i v, i < Z.length → hv (ed Z i) v → ¬ hv keep v → ∃ j, j < Z.length ∧ j ≠ i ∧ hv (ed Z j) v
  edge : ∀ i, i < Z.length → ∃ j, j < E.length ∧ ed E j &&& orTo Z Z.length = ed Z i
  part : ∀ j, j < E.length → ed E j &&& orTo Z Z.length = 0#32 ∨ ∃ i, i < Z.length ∧ subB (ed E j &&& orTo Z Z.length) (ed Z i) = true
theorem left_is {E : List (BitVec 32)} {keep : BitVec 32} {Z : List (BitVec 32)} (h7 : E.length ≤ 7) (hr : risesB Z) (hp : Z.Perm (setsOf (runE E keep).2)) : LeftIs E keep Z := by
  have hrch := runE_rch E keep
  have hinv := hrch.inv (inv_begin E)
  have hst := runE_Stuck keep h7
  have hlen := hrch.len
  generalize (runE E keep).2 = L at hp hrch hinv hst hlen
  rw [begin_len] at hlen
  have hmem : ∀ a, a ∈ Z ↔ a ≠ 0#32 ∧ ∃ x ∈ L, x.2 = a := fun a => by rw [hp.mem_iff, setsOf_mem]
  have hap : Z.Pairwise Apart := (hp.pairwise_iff (fun h => h.symm)).2 (sets_apart hinv.srt hst)
  have hapi : ∀ i j, i < Z.length → j < Z.length → i ≠ j → Apart (ed Z i) (ed Z j) := by
    intro i j hi hj hij
    have h1 := List.pairwise_iff_getElem.1 hap
    rcases Nat.lt_or_gt_of_ne hij with c | c
    · have := h1 i j hi hj c
      rw [ed_eq Z i hi, ed_eq Z j hj] at this; exact this
    · have := h1 j i hj hi c
      rw [ed_eq Z i hi, ed_eq Z j hj] at this; exact this.symm
  have hX : ∀ v, hv (orTo Z Z.length) v ↔ inX L v := by
    intro v
    rw [hv_orTo]
    constructor
    · rintro ⟨i, hi, hh⟩
      obtain ⟨_, x, hx, e⟩ := (hmem _).1 (ed_mem Z i hi)
      exact ⟨x, hx, by rw [e]; exact hh⟩
    · rintro ⟨x, hx, hh⟩
      obtain ⟨i, hi, e⟩ := mem_ed ((hmem x.2).2 ⟨(ne_zero_iff _).2 ⟨v, hh⟩, x, hx, rfl⟩)
      exact ⟨i, hi, by rw [e]; exact hh⟩
  refine ⟨?_, fun i hi => ((hmem _).1 (ed_mem Z i hi)).1, fun i hi => ?_, fun i j hi hj hij => ?_, fun i v hi hh hk => ?_, fun i hi => ?_, fun j hj => ?_⟩
  · rw [hp.length_eq]
    exact Nat.le_trans (setsOf_len L) (Nat.le_trans hlen h7)
  · have h1 := List.pairwise_iff_getElem.1 hr i (i + 1) (by omega) hi (by omega)
    rw [ed_eq Z i (by omega), ed_eq Z (i + 1) hi] at h1
    rcases Nat.lt_or_eq_of_le h1 with c | c
    · exact c
    · exfalso
      have e : ed Z i = ed Z (i + 1) := BitVec.eq_of_toNat_eq c
      have h2 := hapi i (i + 1) (by omega) hi (by omega)
      rw [e] at h2
      exact h2.1 fun _ h => h
  · cases c : subB (ed Z i) (ed Z j)
    · rfl
    · exact absurd ((subB_iff _ _).1 c) (hapi i j hi hj hij).1
  · obtain ⟨_, x, hx, e⟩ := (hmem _).1 (ed_mem Z i hi)
    rw [← e] at hh
    obtain ⟨y, hy, hne, hvy⟩ := hst.twice hx hh hk
    obtain ⟨j, hj, ej⟩ := mem_ed ((hmem y.2).2 ⟨(ne_zero_iff _).2 ⟨v, hvy⟩, y, hy, rfl⟩)
    refine ⟨j, hj, fun c => ?_, by rw [ej]; exact hvy⟩
    subst c
    have : y = x := hst.anti hinv.srt hy hx fun u hu => by rw [e, ej]; exact hu
    exact hne (by rw [this])
  · obtain ⟨_, x, hx, e⟩ := (hmem _).1 (ed_mem Z i hi)
    obtain ⟨c1, c2⟩ := hinv.cut x hx
    refine ⟨x.1, c1, hv_ext fun v => ?_⟩
    rw [hv_and, hX, ← e]
    exact (c2 v).symm
  · by_cases c : ed E j &&& orTo Z Z.length = 0#32
    · exact .inl c
    · right
      obtain ⟨v, hh⟩ := (ne_zero_iff _).1 c
      obtain ⟨x, hx, hc⟩ := hinv.cov j hj
      rw [hv_and, hX] at hh
      obtain ⟨i, hi, ei⟩ := mem_ed ((hmem x.2).2 ⟨(ne_zero_iff _).2 ⟨v, hc v hh.1 hh.2⟩, x, hx, rfl⟩)
      refine ⟨i, hi, (subB_iff _ _).2 fun u hu => ?_⟩
      rw [hv_and, hX] at hu
      rw [ei]
      exact hc u hu.1 hu.2
/-- How many of the sets have the vertex. -/
theorem cntB_ge_two {p : Nat → Bool} {n i j : Nat} (hi : i < n) (hj : j < n) (hij : i ≠ j) (h1 : p i = true) (h2 : p j = true) : 2 ≤ cntB p n := by
  rcases Nat.lt_or_gt_of_ne hij with c | c
  · exact cntB_two c hj h1 h2
  · exact cntB_two c hi h2 h1
end Go.Proofs.YtbgbjodehbcgiaaDoor
