/- From the row's words to the walks' facts: a graph that comes in; the last step of a law's row. -/
import Derived.Test.YtbgbjodehbcgiaaDoorRows
import Derived.Test.YtbgbjodehbcgiaaDoorBA
import Derived.ProofKit
import Derived.OpenShut
import Derived.Deep.DeepHandedRow
import Derived.Lib.SmallJoins
namespace Go.Proofs.YtbgbjodehbcgiaaDoor
open Go.ChangeShapes Go.WideShapes Go.ChangeAt Go.RowKit Go.Joins

/-- The row's last step, where of what was there nothing has turned. -/
theorem post_below {H : Type} {enc : TypeId × Value → H} {P : Program} {f : Func} {s : ChangeSpec} {apart fresh handsOn again : Bool} {W W' : World} {args : Array Value} {v : Value} {ds gs : List (DataW H)} {before pa pv : List MemPlace}
    (hW : DataW.Whole enc P f.params.toList s.vars apart W args.toList ds gs before)
    (hres : ∀ (b : Nat) (sp : Nat → Bool) (hd : Bool), DataW.TrodAll enc P W' b sp hd f.resultTypes.toList (v.resultList f.resultTypes.size) (s.fn H (ds ++ gs)).results [])
    (hargs : ∀ sp : Nat → Bool, (∀ p ∈ before, sp p.block = true) → DataW.TrodAll enc P W' 0 sp true f.params.toList args.toList (s.fn H (ds ++ gs)).args pa)
    (hvars : ∀ sp : Nat → Bool, (∀ p ∈ before, sp p.block = true) → DataW.TrodVars enc P W' sp s.vars (s.fn H (ds ++ gs)).vars pv)
    (hps : before = pa ++ pv) (hb : Below W.heap.size W W')
    (hok : ∀ (j : Nat) (t : TypeId) (r : Value), f.resultTypes[j]? = some t → (v.resultList f.resultTypes.size)[j]? = some r → Value.okWide P W' .any 0 t r) :
    s.post enc P f apart fresh handsOn again W args v W' := by
  have hlt : ∀ p ∈ before, p.block < W.heap.size := fun p hp => hW.lt p hp
  have hold : ∀ p ∈ before, (fun b => decide (b < W.heap.size)) p.block = true := fun p hp => by simpa using hlt p hp
  refine ⟨ds, gs, before, [], pa, pv, hW, hres _ _ _, hargs _ hold, hvars _ hold, World.keptBut_mono (fun p hp => ⟨hp, ?_⟩) (hb.frame (· ∈ before)), fun _ => ?_⟩
  · rw [hps, List.mem_append] at hp
    exact Or.inr hp
  · obtain ⟨_, _, _, _, _, hz, hn⟩ := hW
    refine ⟨hok, _, _, ([] ++ pa) ++ pv, ⟨[] ++ pa, pv, trodAll_append (hargs _ (fun _ _ => rfl)) (hres _ _ _), hvars _ (fun _ _ => rfl), rfl, ?_, ?_⟩, ?_⟩
    · intro b off hp
      have hin : MemPlace.cell b off ∈ before := by rw [hps]; simpa using hp
      rw [hb.frozen (hlt _ hin)]
      exact hz b off hin
    · intro ha
      have := hn ha
      rw [hps] at this
      simpa using this
    · intro p hp _
      rw [hps]
      simpa using hp

theorem Tryd.laidOut : laidOutB Tryd.prog = true := by kernel_rfl
theorem Tryd.cellsGraph : Tryd.prog.cellsOf 28 = 2 := by kernel_rfl
theorem Tryd.cellsWords : Tryd.prog.cellsOf 26 = 1 := by kernel_rfl
theorem Tryd.cellsU32 : Tryd.prog.cellsOf 29 = 1 := by kernel_rfl
theorem Tryd.bytesU32 : Tryd.prog.bytesOf 29 = 4 := by kernel_rfl

/-- A slice of words that came in, as its own reading has it. -/
theorem open_words {H : Type} {enc : TypeId × Value → H} {W : World} {n : Nat} {cs : List Value} {x : DataW H × List MemPlace} (h : DataW.trod enc Tryd.prog W 0 (fun _ => true) true n 26 cs = some x) :
    ∃ (A : Option Addr) (E : List (BitVec 32)) (c : Nat), cs = [.slice A E.length c] ∧ Rd W W.heap.size A (us E) ∧
      ((A = none ∧ E = [] ∧ x = (.nil, [])) ∨ ∃ es sp ps, x = (.slice es sp, ps) ∧ es.length = E.length) := by
  rcases open_ints Tryd.underlying26 Tryd.underlying29 Tryd.cellsU32 h with ⟨rfl, rfl⟩ | ⟨a, len, cap, zs, rfl, _, hl, _, hz, rfl, hc, hwf⟩
  · exact ⟨none, [], 0, rfl, Rd.nil, .inl ⟨rfl, rfl, rfl⟩⟩
  · have hzl : zs.length = cap := by simpa using hz
    have hEl : ((zs.take len).map (BitVec.ofInt 32)).length = len := by simp; omega
    refine ⟨some a, (zs.take len).map (BitVec.ofInt 32), cap, by rw [hEl], fun k hk => ?_, .inr ⟨_, _, _, rfl, by simp [lits]⟩⟩
    have hk' : k < len := by rw [us_length, hEl] at hk; exact hk
    have hcell := hc k (by omega)
    refine ⟨a, rfl, ?_, ?_⟩
    · have := World.block_lt_of_cell? _ _ hcell
      rwa [block_add] at this
    · rw [hcell]
      have hkz : k < zs.length := by omega
      have hb := bounds_u32 (hwf _ (List.getElem_mem hkz))
      have e : zs.getD k 0 = zs[k] := by simp [hkz]
      rw [e]
      simp only [us, List.getElem_map, List.getElem_take]
      rw [uz_of _ hb.1 (by omega)]

set_option maxRecDepth 100000 in
/-- A GRAPH THAT CAME IN. -/
theorem open_graph {H : Type} {enc : TypeId × Value → H} {W : World} {r : Reach} {b0 : Nat} {v : Value} {d : DataW H} {p : List MemPlace}
    (hv : Value.okWide Tryd.prog W r b0 28 v) (h : DataW.Trod enc Tryd.prog W 0 (fun _ => true) true 28 v d p) :
    ∃ (V : Int) (A : Option Addr) (E : List (BitVec 32)) (c : Nat), v = .agg #[.int .i64 V, .slice A E.length c] ∧ Rd W W.heap.size A (us E) ∧
      ((DataW.weights Tryd.prog 28 d).all (· ≤ reachBytes) = true → E.length ≤ 35184372087808) ∧ -9223372036854775808 ≤ V ∧ V ≤ 9223372036854775807 := by
  obtain ⟨v0, v1, y0, y1, n, rfl, rfl, rfl, h0, h1⟩ := open_agg2 Tryd.underlying28 (by kernel_rfl) Tryd.cellsGraph hv h
  obtain ⟨V, e1, e2, e3⟩ := DataW.trod_int Tryd.underlying3 h0
  obtain ⟨A, E, c, e4, hR, hE⟩ := open_words h1
  simp only [List.cons.injEq, and_true] at e1 e4
  subst e1 e4
  have hb := bounds_i64 e3
  refine ⟨V, A, E, c, rfl, hR, fun hw => ?_, hb.1, hb.2⟩
  rcases hE with ⟨_, rfl, _⟩ | ⟨es, sp, ps, hx, hl⟩
  · exact Nat.zero_le _
  · rw [hx] at hw
    have := List.all_eq_true.1 hw ((es.length + sp.length) * Tryd.prog.bytesOf 29) (by
      rw [e2]
      simp [DataW.weights, Tryd.underlying28, Tryd.underlying26, DataW.weightsEach])
    rw [Tryd.bytesU32] at this
    have h2 := of_decide_eq_true this
    simp only [reachBytes] at h2
    omega


theorem Tryd.cellsInt : Tryd.prog.cellsOf 3 = 1 := by kernel_rfl
/-- A graph inside another struct. -/
theorem open_graph_cells {H : Type} {enc : TypeId × Value → H} {W : World} {n : Nat} {z0 z1 : Value} {y : DataW H × List MemPlace}
    (h : DataW.trod enc Tryd.prog W 0 (fun _ => true) true n 28 [z0, z1] = some y) :
    ∃ (V : Int) (A : Option Addr) (E : List (BitVec 32)) (c : Nat), z0 = .int .i64 V ∧ z1 = .slice A E.length c ∧ Rd W W.heap.size A (us E) ∧
      ((DataW.weights Tryd.prog 28 y.1).all (· ≤ reachBytes) = true → E.length ≤ 35184372087808) := by
  obtain ⟨y0, y1, m, hx, _, h0, h1⟩ := trod_struct2 Tryd.underlying28 h
  have g0 : DataW.trod enc Tryd.prog W 0 (fun _ => true) true m 3 [z0] = some y0 := by simpa [Tryd.cellsInt] using h0
  have g1 : DataW.trod enc Tryd.prog W 0 (fun _ => true) true m 26 [z1] = some y1 := by simpa [Tryd.cellsWords] using h1
  obtain ⟨V, e1, e2, e3⟩ := DataW.trod_int Tryd.underlying3 g0
  obtain ⟨A, E, c, e4, hR, hE⟩ := open_words g1
  simp only [List.cons.injEq, and_true] at e1 e4
  subst e1 e4
  refine ⟨V, A, E, c, rfl, rfl, hR, fun hw => ?_⟩
  rcases hE with ⟨_, rfl, _⟩ | ⟨es, sp, ps, hy, hl⟩
  · exact Nat.zero_le _
  · rw [hx, hy] at hw
    have := List.all_eq_true.1 hw ((es.length + sp.length) * Tryd.prog.bytesOf 29) (by
      rw [e2]
      simp [DataW.weights, Tryd.underlying28, Tryd.underlying26, DataW.weightsEach])
    rw [Tryd.bytesU32] at this
    have h2 := of_decide_eq_true this
    simp only [reachBytes] at h2
    omega

set_option maxRecDepth 100000 in
theorem open_u32 {H : Type} {enc : TypeId × Value → H} {W : World} {r : Reach} {b0 : Nat} {v : Value} {d : DataW H} {p : List MemPlace}
    (hv : Value.okWide Tryd.prog W r b0 29 v) (h : DataW.Trod enc Tryd.prog W 0 (fun _ => true) true 29 v d p) : ∃ x : BitVec 32, v = .int .u32 (uz x) := by
  obtain ⟨n, rfl, _, _, hw⟩ := open_int Tryd.underlying29 hv h
  have hb := bounds_u32 hw
  exact ⟨BitVec.ofInt 32 n, by rw [uz_of _ hb.1 (by omega)]⟩
set_option maxRecDepth 100000 in
theorem open_i64 {H : Type} {enc : TypeId × Value → H} {W : World} {r : Reach} {b0 : Nat} {v : Value} {d : DataW H} {p : List MemPlace}
    (hv : Value.okWide Tryd.prog W r b0 3 v) (h : DataW.Trod enc Tryd.prog W 0 (fun _ => true) true 3 v d p) : ∃ n : Int, v = .int .i64 n ∧ -9223372036854775808 ≤ n ∧ n ≤ 9223372036854775807 := by
  obtain ⟨n, rfl, _, _, hw⟩ := open_int Tryd.underlying3 hv h
  have hb := bounds_i64 hw
  exact ⟨n, rfl, hb.1, hb.2⟩
/-! ### The world holds nothing that stops -/
theorem own_ : ownKnob Tryd.prog.godebug = none := by kernel_rfl
end Go.Proofs.YtbgbjodehbcgiaaDoor
