/- The listed table of math/bits, and a world that holds it. -/
import Derived.Test.YtaongngoacbodaaDoorOpenA
import Derived.Test.YtaongngoacbodaaDoorTie
import Derived.Test.YtaongngoacbodaaDoorCards
import Derived.Test.YtaongngoacbodaaDoorTz
import Derived.Lib.LaidTab
namespace Go.Proofs.YtaongngoacbodaaDoor
open Go.ChangeShapes Go.WideShapes Go.ChangeAt Go.RowKit Go.Joins

/-! ### The listed table -/
theorem gTab : Tryd.prog.globalNamed "math/bits.deBruijn32tab" = some 0 := by kernel_rfl
theorem gTabType : (Tryd.prog.globals[0]?).map (·.type) = some 89 := by kernel_rfl
theorem cellsTab : Tryd.prog.cellsOf 89 = 32 := by kernel_rfl
theorem cellsU8 : Tryd.prog.cellsOf 5 = 1 := by kernel_rfl
theorem table_ {W : World} (h : laidMetH Tryd.prog [("math/bits.deBruijn32tab", Rows.laid_math_bits_deBruijn32tab)] W) : Tab W := by
  have ht : Lib.TabIs Tryd.prog W "math/bits.deBruijn32tab" .u8 (Lib.deBruijn32tab.map fun (n : Nat) => (n : Int)) :=
    Lib.tabIs_of_head (rest := []) gTab gTabType Tryd.underlying89 Tryd.underlying5 cellsU8 cellsTab h
  intro k hk
  have h1 := ht.cell gTab k (by simpa [Lib.deBruijn32tab] using hk)
  rw [h1]
  have h2 : k < Lib.deBruijn32tab.length := by simpa [Lib.deBruijn32tab] using hk
  simp [h2]
/-- A world for the witness: the settled one, the table holding what its initialiser lays. -/
noncomputable def laidWorld (os : Os) : World :=
  { World.holding Tryd.prog os ⟨#[], #[], []⟩ with heap := (World.holding Tryd.prog os ⟨#[], #[], []⟩).heap.modify 0 fun
      | .cells _ t frozen => .cells (Lib.deBruijn32tab.map fun (n : Nat) => Value.int .u8 (n : Int)).toArray t frozen
      | o => o }

theorem array5 {α : Type} {cs : Array α} (h : cs.size = 5) : ∃ c0 c1 c2 c3 c4, cs = #[c0, c1, c2, c3, c4] := by
  obtain ⟨l⟩ := cs
  match l, h with
  | [a, b, c, d, e], _ => exact ⟨a, b, c, d, e, rfl⟩
theorem Tryd.cellsWalk : Tryd.prog.cellsOf 30 = 5 := by kernel_rfl
set_option maxRecDepth 100000 in
/-- THE ARGUMENTS OF Path THAT CAME IN. -/
theorem open_walk {H : Type} {enc : TypeId × Value → H} {W : World} {r : Reach} {b0 : Nat} {v : Value} {d : DataW H} {p : List MemPlace}
    (hv : Value.okWide Tryd.prog W r b0 30 v) (h : DataW.Trod enc Tryd.prog W 0 (fun _ => true) true 30 v d p) :
    ∃ (V : Int) (A : Option Addr) (E : List (BitVec 32)) (c : Nat) (s t : Int) (x : BitVec 32), v = .agg #[.int .i64 V, .slice A E.length c, .int .i64 s, .int .i64 t, .int .u32 (uz x)] ∧ Rd W W.heap.size A (us E) ∧
      ((DataW.weights Tryd.prog 30 d).all (· ≤ reachBytes) = true → E.length ≤ 35184372087808) := by
  obtain ⟨cs, rfl, hsz⟩ := okWide_struct Tryd.underlying30 hv
  obtain ⟨z0, z1, z2, z3, z4, rfl⟩ := array5 (hsz.trans Tryd.cellsWalk)
  obtain ⟨fuel, hf⟩ := h
  obtain ⟨y0, y1, y2, y3, n, hx, _, h0, h1, h2, h3⟩ := trod_struct4 Tryd.underlying30 hf
  have g0 : DataW.trod enc Tryd.prog W 0 (fun _ => true) true n 24 [z0, z1] = some y0 := by simpa [Value.cells, Tryd.cellsGraph] using h0
  have g1 : DataW.trod enc Tryd.prog W 0 (fun _ => true) true n 3 [z2] = some y1 := by simpa [Value.cells, Tryd.cellsInt] using h1
  have g2 : DataW.trod enc Tryd.prog W 0 (fun _ => true) true n 3 [z3] = some y2 := by simpa [Value.cells, Tryd.cellsInt] using h2
  have g3 : DataW.trod enc Tryd.prog W 0 (fun _ => true) true n 28 [z4] = some y3 := by simpa [Value.cells, Tryd.cellsU32] using h3
  obtain ⟨V, A, E, c, rfl, rfl, hR, hl⟩ := open_graph_cells g0
  obtain ⟨s, e1, _, _⟩ := DataW.trod_int Tryd.underlying3 g1
  obtain ⟨t, e2, _, _⟩ := DataW.trod_int Tryd.underlying3 g2
  obtain ⟨x, e3, _, hw⟩ := DataW.trod_int Tryd.underlying28 g3
  simp only [List.cons.injEq, and_true] at e1 e2 e3
  subst e1 e2 e3
  have hb := bounds_u32 hw
  refine ⟨V, A, E, c, s, t, BitVec.ofInt 32 x, by rw [uz_of _ hb.1 (by omega)], hR, fun hs => hl ?_⟩
  simp only [Prod.mk.injEq] at hx
  rw [hx.1] at hs
  have e : DataW.weights Tryd.prog 30 (.agg [y0.1, y1.1, y2.1, y3.1]) = DataW.weights Tryd.prog 24 y0.1 ++ (DataW.weights Tryd.prog 3 y1.1 ++ (DataW.weights Tryd.prog 3 y2.1 ++ (DataW.weights Tryd.prog 28 y3.1 ++ []))) := by
    rw [DataW.weights]
    simp [Tryd.underlying30, DataW.weightsEach]
  rw [e] at hs
  simp only [List.all_append, Bool.and_eq_true] at hs
  exact hs.1
end Go.Proofs.YtaongngoacbodaaDoor
