/- The plain law of steps that are made one after another, whatever they are: as far as they are steps. -/
import Derived.Test.YtbgbjodehbcgiaaGreatDoorBE
import Derived.Test.YtbgbjodehbcgiaaGreatDoorBD
namespace Go.Proofs.YtbgbjodehbcgiaaGreatDoor

/-- What is there after the first k steps. -/
def mkTo (L : Lt) (ss : List Stp) : Nat → Lt
  | 0 => L
  | k + 1 => makeE (mkTo L ss k) (stp ss k)
def legalTo (keep : BitVec 32) (L : Lt) (ss : List Stp) (k : Nat) : Prop := ∀ i, i < k → stp ss i ∈ stepsE (mkTo L ss i) keep
theorem mkTo_len (L : Lt) (ss : List Stp) : ∀ k, (mkTo L ss k).length ≤ L.length
  | 0 => Nat.le_refl _
  | k + 1 => Nat.le_trans (make_len _ _) (mkTo_len L ss k)
theorem mkTo_srt {L : Lt} (h : Srt L) (ss : List Stp) : ∀ k, Srt (mkTo L ss k)
  | 0 => h
  | k + 1 => (mkTo_srt h ss k).make
theorem mkTo_congr {L : Lt} {ss tt : List Stp} : ∀ {k : Nat}, (∀ i, i < k → stp ss i = stp tt i) → mkTo L ss k = mkTo L tt k
  | 0, _ => rfl
  | k + 1, h => by
    show makeE (mkTo L ss k) (stp ss k) = makeE (mkTo L tt k) (stp tt k)
    rw [mkTo_congr (k := k) fun i hi => h i (by omega), h k (by omega)]
/-- What Replay answers. -/
def ReplIs (V : Int) (E : List (BitVec 32)) (keep : BitVec 32) (ss : List Stp) (L : Lt) (n code : Int) : Prop :=
  (validB V E = false ∧ L = [] ∧ n = 0 ∧ code = 140) ∨
  (validB V E = true ∧ code = 0 ∧ ∃ k : Nat, n = k ∧ k ≤ ss.length ∧ L = mkTo (beginE E) ss k ∧ legalTo keep (beginE E) ss k ∧ (k = ss.length ∨ stp ss k ∉ stepsE (mkTo (beginE E) ss k) keep))
end Go.Proofs.YtbgbjodehbcgiaaGreatDoor
