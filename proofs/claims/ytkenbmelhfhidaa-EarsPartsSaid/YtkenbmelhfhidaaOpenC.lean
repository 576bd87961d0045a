/- The arguments of EarsParts that came in. -/
import Derived.Test.YtkenbmelhfhidaaOpenA
namespace Go.Proofs.Ytkenbmelhfhidaa
open Go.ChangeShapes Go.WideShapes Go.ChangeAt Go.RowKit Go.Joins

theorem array5 {α : Type} {cs : Array α} (h : cs.size = 5) : ∃ c0 c1 c2 c3 c4, cs = #[c0, c1, c2, c3, c4] := by
  obtain ⟨l⟩ := cs
  match l, h with
  | [a, b, c, d, e], _ => exact ⟨a, b, c, d, e, rfl⟩
theorem Try.cellsParts : Try.prog.cellsOf 77 = 5 := by kernel_rfl
set_option maxRecDepth 100000 in
theorem open_parts {H : Type} {enc : TypeId × Value → H} {W : World} {r : Reach} {b0 : Nat} {v : Value} {d : DataW H} {p : List MemPlace}
    (hv : Value.okWide Try.prog W r b0 77 v) (h : DataW.Trod enc Try.prog W 0 (fun _ => true) true 77 v d p) :
    ∃ (V : Int) (A : Option Addr) (E : List (BitVec 32)) (c : Nat) (x y : BitVec 32) (n : Int), v = .agg #[.int .i64 V, .slice A E.length c, .int .u32 (uz x), .int .u32 (uz y), .int .i64 n] ∧ Rd W W.heap.size A (us E) ∧
      ((DataW.weights Try.prog 77 d).all (· ≤ reachBytes) = true → E.length ≤ 35184372087808) := by
  obtain ⟨cs, rfl, hsz⟩ := okWide_struct Try.underlying77 hv
  obtain ⟨z0, z1, z2, z3, z4, rfl⟩ := array5 (hsz.trans Try.cellsParts)
  obtain ⟨fuel, hf⟩ := h
  obtain ⟨y0, y1, y2, y3, n, hx, _, h0, h1, h2, h3⟩ := trod_struct4 Try.underlying77 hf
  have g0 : DataW.trod enc Try.prog W 0 (fun _ => true) true n 24 [z0, z1] = some y0 := by simpa [Value.cells, Try.cellsGraph] using h0
  have g1 : DataW.trod enc Try.prog W 0 (fun _ => true) true n 39 [z2] = some y1 := by simpa [Value.cells, Try.cellsU32] using h1
  have g2 : DataW.trod enc Try.prog W 0 (fun _ => true) true n 39 [z3] = some y2 := by simpa [Value.cells, Try.cellsU32] using h2
  have g3 : DataW.trod enc Try.prog W 0 (fun _ => true) true n 3 [z4] = some y3 := by simpa [Value.cells, Try.cellsInt] using h3
  obtain ⟨V, A, E, c, rfl, rfl, hR, hl⟩ := open_graph_cells g0
  obtain ⟨x, e1, _, hw1⟩ := DataW.trod_int Try.underlying39 g1
  obtain ⟨y, e2, _, hw2⟩ := DataW.trod_int Try.underlying39 g2
  obtain ⟨t, e3, _, _⟩ := DataW.trod_int Try.underlying3 g3
  simp only [List.cons.injEq, and_true] at e1 e2 e3
  subst e1 e2 e3
  have hb1 := bounds_u32 hw1
  have hb2 := bounds_u32 hw2
  refine ⟨V, A, E, c, BitVec.ofInt 32 x, BitVec.ofInt 32 y, t, by rw [uz_of _ hb1.1 (by omega), uz_of _ hb2.1 (by omega)], hR, fun hs => hl ?_⟩
  simp only [Prod.mk.injEq] at hx
  rw [hx.1] at hs
  have e : DataW.weights Try.prog 77 (.agg [y0.1, y1.1, y2.1, y3.1]) = DataW.weights Try.prog 24 y0.1 ++ (DataW.weights Try.prog 39 y1.1 ++ (DataW.weights Try.prog 39 y2.1 ++ (DataW.weights Try.prog 3 y3.1 ++ []))) := by
    rw [DataW.weights]
    simp [Try.underlying77, DataW.weightsEach]
  rw [e] at hs
  simp only [List.all_append, Bool.and_eq_true] at hs
  exact hs.1
end Go.Proofs.Ytkenbmelhfhidaa
