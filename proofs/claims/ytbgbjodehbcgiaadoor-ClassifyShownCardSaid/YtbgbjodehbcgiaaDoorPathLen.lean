/- The plain law: a path that was told has at most 30 vertices. -/
import Derived.Test.YtbgbjodehbcgiaaDoorBP
namespace Go.Proofs.YtbgbjodehbcgiaaDoor

theorem best_len {E : List (BitVec 32)} {s t V : Nat} {inner inn : BitVec 32} (h : Given E s t V inner inn) {p : List Nat} (hp : Best E s t inner p) : p.length ≤ V := by
  obtain ⟨h1, h2, h3⟩ := hp
  match p, h1, h2, h3 with
  | x :: r, h1, h2, h3 =>
    obtain rfl : x = s := by simpa using h2
    have hm : RMin E x t inner r.length x := by
      refine ⟨⟨r, h1, rfl⟩, fun m hm ⟨q, hq, hl⟩ => ?_⟩
      have h4 := h3 (x :: q) hq rfl
      unfold lessL at h4
      rw [if_neg (by simp; omega)] at h4
      simp at h4
      omega
    have := rmin_small h h.hsrc hm
    simp; omega
theorem pathIs_len {V : Int} {E : List (BitVec 32)} {s t : Int} {inner : BitVec 32} {Z : List Nat} {code : Int} (k : PathIs V E s t inner Z code) : Z.length ≤ 30 := by
  rcases k with ⟨_, _, rfl⟩ | ⟨_, _, _, rfl⟩ | ⟨_, _, _, _, _, _, _, rfl⟩ | ⟨a1, a2, a3, a4, a5, a6, _, ⟨rfl, _⟩ | hb⟩
  · simp
  · simp
  · simp
  · simp
  · obtain ⟨m, rfl⟩ := Int.eq_ofNat_of_zero_le a2
    obtain ⟨n, rfl⟩ := Int.eq_ofNat_of_zero_le a3
    have h1 := best_len (given_of (inner := inner) a1 a4 a5 (by omega)) hb
    have h2 := (validB_of a1).2.1
    omega
end Go.Proofs.YtbgbjodehbcgiaaDoor
