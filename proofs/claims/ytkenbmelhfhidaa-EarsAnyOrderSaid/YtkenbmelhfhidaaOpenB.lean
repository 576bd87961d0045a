/- Slices of words, of numbers, and what else comes in, as the walks want them. -/
import Derived.Test.YtkenbmelhfhidaaOpenA
namespace Go.Proofs.Ytkenbmelhfhidaa
open Go.ChangeShapes Go.WideShapes Go.ChangeAt Go.RowKit Go.Joins

theorem Try.bytesInt : Try.prog.bytesOf 3 = 8 := by kernel_rfl
set_option maxRecDepth 100000 in
/-- A slice of words, an argument by itself. -/
theorem open_words_ {H : Type} {enc : TypeId × Value → H} {W : World} {r : Reach} {b0 : Nat} {v : Value} {d : DataW H} {p : List MemPlace}
    (hv : Value.okWide Try.prog W r b0 22 v) (h : DataW.Trod enc Try.prog W 0 (fun _ => true) true 22 v d p) :
    ∃ (A : Option Addr) (E : List (BitVec 32)) (c : Nat), v = .slice A E.length c ∧ Rd W W.heap.size A (us E) ∧ ((DataW.weights Try.prog 22 d).all (· ≤ reachBytes) = true → E.length ≤ 35184372087808) := by
  obtain ⟨a, len, cap, rfl⟩ := okWide_slice Try.underlying22 hv
  obtain ⟨fuel, hf⟩ := h
  obtain ⟨A, E, c, e1, hR, hE⟩ := open_words hf
  have e2 : Value.slice a len cap = .slice A E.length c := by simpa [Value.cells] using e1
  refine ⟨A, E, c, e2, hR, fun hw => ?_⟩
  rcases hE with ⟨_, rfl, _⟩ | ⟨es, sp, ps, hx, hl⟩
  · exact Nat.zero_le _
  · simp only [Prod.mk.injEq] at hx
    rw [hx.1] at hw
    have := List.all_eq_true.1 hw ((es.length + sp.length) * Try.prog.bytesOf 39) (by simp [DataW.weights, Try.underlying22])
    rw [Try.bytesU32] at this
    have h2 := of_decide_eq_true this
    simp only [reachBytes] at h2
    omega
set_option maxRecDepth 100000 in
/-- A slice of numbers, an argument by itself. -/
theorem open_ints_ {H : Type} {enc : TypeId × Value → H} {W : World} {r : Reach} {b0 : Nat} {v : Value} {d : DataW H} {p : List MemPlace}
    (hv : Value.okWide Try.prog W r b0 25 v) (h : DataW.Trod enc Try.prog W 0 (fun _ => true) true 25 v d p) :
    ∃ (A : Option Addr) (Z : List Int) (c : Nat), v = .slice A Z.length c ∧ Rd W W.heap.size A (is Z) ∧ ((DataW.weights Try.prog 25 d).all (· ≤ reachBytes) = true → Z.length ≤ 35184372087808) := by
  obtain ⟨a, len, cap, rfl⟩ := okWide_slice Try.underlying25 hv
  obtain ⟨fuel, hf⟩ := h
  rcases open_ints Try.underlying25 Try.underlying3 Try.cellsInt hf with ⟨e1, _⟩ | ⟨a', len', cap', zs, e1, _, hl, _, hz, hx, hc, _⟩
  · have e2 : Value.slice a len cap = .slice none 0 0 := by simpa [Value.cells] using e1
    exact ⟨none, [], 0, e2, Rd.nil, fun _ => Nat.zero_le _⟩
  · have e2 : Value.slice a len cap = .slice (some a') len' cap' := by simpa [Value.cells] using e1
    have hzl : zs.length = cap' := by simpa using hz
    have hZl : (zs.take len').length = len' := by simp; omega
    refine ⟨some a', zs.take len', cap', by rw [hZl]; exact e2, fun k hk => ?_, fun hw => ?_⟩
    · have hk' : k < len' := by rw [is_length, hZl] at hk; exact hk
      have hcell := hc k (by omega)
      refine ⟨a', rfl, ?_, ?_⟩
      · have := World.block_lt_of_cell? _ _ hcell
        rwa [block_add] at this
      · rw [hcell]
        have hkz : k < zs.length := by omega
        have e : zs.getD k 0 = zs[k] := by simp [hkz]
        rw [e]
        simp only [is, List.getElem_map, List.getElem_take]
    · rw [hZl]
      simp only [Prod.mk.injEq] at hx
      rw [hx.1] at hw
      have := List.all_eq_true.1 hw (((lits .i64 (zs.take len')).length + (lits .i64 (zs.drop len')).length) * Try.prog.bytesOf 3) (by simp [DataW.weights, Try.underlying25]; exact .inl rfl)
      rw [Try.bytesInt] at this
      have h2 := of_decide_eq_true this
      simp only [reachBytes] at h2
      have h3 : (lits (H := H) .i64 (zs.take len')).length = len' := by simp [lits]; omega
      omega
end Go.Proofs.Ytkenbmelhfhidaa
