/- The list of a tree's edges, each behind its parent and right ahead of what hangs below it. No program in sight. -/
import Derived.Test.YtbgbjodehbcgiaaGreatDoorBB
namespace Go.Proofs.YtbgbjodehbcgiaaGreatDoor

/-- The fuel is enough. -/
def Deep (n : Nat) (d : Nat → Nat) (m : Nat) (a : Int) : Prop := (a = -1 ∧ n + 1 < m) ∨ (0 ≤ a ∧ a < n ∧ n - d a.toNat < m)
theorem Deep.child {n : Nat} {p : Nat → Int} {d : Nat → Nat} {m : Nat} {a : Int} (hd : ∀ i, i < n → 0 ≤ p i → d (p i).toNat < d i) (hlt : ∀ i, i < n → d i < n) (h : Deep n d (m + 1) a) {i : Nat} (hi : i < n) (hp : p i = a) : Deep n d m (i : Int) := by
  right
  rw [Int.toNat_natCast]
  have h1 := hlt i hi
  rcases h with ⟨e, h⟩ | ⟨e1, e2, h⟩
  · exact ⟨by omega, by omega, by omega⟩
  · have h2 := hd i hi (by omega)
    rw [hp] at h2
    exact ⟨by omega, by omega, by omega⟩
theorem Deep.pos {n : Nat} {d : Nat → Nat} {a : Int} (h : Deep n d 0 a) : False := by
  rcases h with ⟨_, h⟩ | ⟨_, _, h⟩ <;> omega
/-! ### Each behind the one ahead of it, or behind one above that -/
end Go.Proofs.YtbgbjodehbcgiaaGreatDoor
