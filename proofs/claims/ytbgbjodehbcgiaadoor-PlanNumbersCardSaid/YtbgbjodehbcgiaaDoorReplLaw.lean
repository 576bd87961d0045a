/- The plain law of steps that are made one after another, whatever they are: as far as they are steps. -/
import Derived.Test.YtbgbjodehbcgiaaDoorBE
import Derived.Test.YtbgbjodehbcgiaaDoorBD
namespace Go.Proofs.YtbgbjodehbcgiaaDoor

/-- What is there after the first k steps. -/
def mkTo (L : Lt) (ss : List Stp) : Nat → Lt
  | 0 => L
  | k + 1 => makeE (mkTo L ss k) (stp ss k)
def legalTo (keep : BitVec 32) (L : Lt) (ss : List Stp) (k : Nat) : Prop := ∀ i, i < k → stp ss i ∈ stepsE (mkTo L ss i) keep
theorem mkTo_len (L : Lt) (ss : List Stp) : ∀ k, (mkTo L ss k).length ≤ L.length
  | 0 => Nat.le_refl _
  | k + 1 => Nat.le_trans (make_len _ _) (mkTo_len L ss k)
theorem mkTo_srt {L : Lt} (h : Srt L) (ss : List Stp) : ∀ k, Srt (mkTo L ss k)
  | 0 => h
  | k + 1 => (mkTo_srt h ss k).make
theorem mkTo_congr {L : Lt} {ss tt : List Stp} : ∀ {k : Nat}, (∀ i, i < k → stp ss i = stp tt i) → mkTo L ss k = mkTo L tt k
  | 0, _ => rfl
  | k + 1, h => by
    show makeE (mkTo L ss k) (stp ss k) = makeE (mkTo L tt k) (stp tt k)
    rw [mkTo_congr (k := k) fun i hi => h i (by omega), h k (by omega)]
/-- What Replay answers. -/
def ReplIs (V : Int) (E : List (BitVec 32)) (keep : BitVec 32) (ss : List Stp) (L : Lt) (n code : Int) : Prop :=
  (validB V E = false ∧ L = [] ∧ n = 0 ∧ code = 140) ∨
  (validB V E = true ∧ code = 0 ∧ ∃ k : Nat, n = k ∧ k ≤ ss.length ∧ L = mkTo (beginE E) ss k ∧ legalTo keep (beginE E) ss k ∧ (k = ss.length ∨ stp ss k ∉ stepsE (mkTo (beginE E) ss k) keep))
theorem repl_uniq {V : Int} {E : List (BitVec 32)} {keep : BitVec 32} {ss : List Stp} {L M : Lt} {n m a b : Int} (h : ReplIs V E keep ss L n a) (k : ReplIs V E keep ss M m b) : L = M ∧ n = m ∧ a = b := by
  rcases h with ⟨v, rfl, rfl, rfl⟩ | ⟨v, rfl, i, rfl, hi, rfl, h1, h2⟩ <;> rcases k with ⟨u, rfl, rfl, rfl⟩ | ⟨u, rfl, j, rfl, hj, rfl, k1, k2⟩
  · exact ⟨rfl, rfl, rfl⟩
  · rw [v] at u; cases u
  · rw [v] at u; cases u
  · rcases Nat.lt_trichotomy i j with c | c | c
    · rcases h2 with e | e
      · omega
      · exact absurd (k1 i c) e
    · subst c; exact ⟨rfl, rfl, rfl⟩
    · rcases k2 with e | e
      · omega
      · exact absurd (h1 j c) e
theorem repl_len {V : Int} {E : List (BitVec 32)} {keep : BitVec 32} {ss : List Stp} {L : Lt} {n a : Int} (h : ReplIs V E keep ss L n a) : L.length ≤ 7 := by
  rcases h with ⟨_, rfl, _, _⟩ | ⟨v, _, k, _, _, rfl, _, _⟩
  · exact Nat.zero_le _
  · have := mkTo_len (beginE E) ss k
    rw [begin_len] at this
    have := (validB_of v).2.2.1
    omega
end Go.Proofs.YtbgbjodehbcgiaaDoor
