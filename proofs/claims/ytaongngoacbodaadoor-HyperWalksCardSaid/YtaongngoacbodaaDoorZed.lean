/- Lists of natural numbers in memory, and rows whose cells a function tells. -/
import Derived.Test.YtaongngoacbodaaDoorEd
namespace Go.Proofs.YtaongngoacbodaaDoor
open Go.RowKit

/-- The k-th number. -/
def zed (Z : List Nat) (k : Nat) : Nat := Z.getD k 0
theorem zed_eq (Z : List Nat) (k : Nat) (h : k < Z.length) : Z[k] = zed Z k := by simp [zed, h]
theorem zed_mem (Z : List Nat) (k : Nat) (h : k < Z.length) : zed Z k ∈ Z := by rw [← zed_eq Z k h]; exact List.getElem_mem _
theorem Rd.z_at {w : World} {B : Nat} {A : Option Addr} {Z : List Nat} (h : Rd w B A (is (Z.map Int.ofNat))) {k : Nat} (hk : k < Z.length) :
    ∃ ad, A = some ad ∧ ad.block < B ∧ w.cell? (ad.add k) = some (.int .i64 ((zed Z k : Nat) : Int)) := by
  obtain ⟨ad, e, hl, hc⟩ := h.i_at (by simpa using hk : k < (Z.map Int.ofNat).length)
  refine ⟨ad, e, hl, hc.trans ?_⟩
  rw [List.getElem_map, zed_eq Z k hk]; rfl
theorem zed_lt_of_sorted {Z : List Nat} (h : Z.Pairwise (· < ·)) {i j : Nat} (hij : i < j) (hj : j < Z.length) : zed Z i < zed Z j := by
  rw [← zed_eq Z i (by omega), ← zed_eq Z j hj]
  exact List.pairwise_iff_getElem.1 h i j (by omega) hj hij


/-- n numbers, told by a function. -/
def rowOf (n : Nat) (f : Nat → Int) : List Int := (List.range n).map f
@[simp] theorem rowOf_length (n : Nat) (f : Nat → Int) : (rowOf n f).length = n := by simp [rowOf]
theorem rowOf_at (n : Nat) (f : Nat → Int) (k : Nat) (h : k < n) : (is (rowOf n f))[k]? = some (.int .i64 (f k)) := by
  simp [is, rowOf, h]
theorem rowOf_set (n : Nat) (f : Nat → Int) (k : Nat) (x : Int) : (is (rowOf n f)).set k (.int .i64 x) = is (rowOf n fun j => if j = k then x else f j) := by
  unfold is rowOf
  rw [← List.map_set]
  congr 1
  apply List.ext_getElem?
  intro i
  rw [List.getElem?_set, List.getElem?_map, List.getElem?_map]
  by_cases h : k = i
  · subst h
    by_cases h2 : k < n
    · simp [h2]
    · simp [h2]
  · rw [if_neg h]
    by_cases h2 : i < n
    · simp [h2, Ne.symm h]
    · simp [h2]
theorem rowOf_congr {n : Nat} {f g : Nat → Int} (h : ∀ i, i < n → f i = g i) : rowOf n f = rowOf n g := by
  unfold rowOf
  apply List.map_congr_left
  intro i hi
  exact h i (List.mem_range.1 hi)
theorem rowOf_zeros (n : Nat) : zeros (.int .i64 0) n = is (rowOf n fun _ => 0) := by
  unfold zeros is rowOf
  apply List.ext_getElem?
  intro i
  by_cases h : i < n <;> simp [h]
end Go.Proofs.YtaongngoacbodaaDoor
