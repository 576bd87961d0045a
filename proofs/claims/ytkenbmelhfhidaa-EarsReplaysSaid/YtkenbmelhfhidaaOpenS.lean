/- A slice of steps that came in, as the walks want it. -/
import Derived.Test.YtkenbmelhfhidaaOpenA
import Derived.Test.YtkenbmelhfhidaaBD
import Derived.Deep.Slices
namespace Go.Proofs.Ytkenbmelhfhidaa
open Go.ChangeShapes Go.WideShapes Go.ChangeAt Go.RowKit Go.Joins

instance : Inhabited Stp := ⟨⟨0, 0, 0, 0#32⟩⟩
theorem Try.cellsKind : Try.prog.cellsOf 64 = 1 := by kernel_rfl
theorem Try.cellsStep : Try.prog.cellsOf 66 = 4 := by kernel_rfl
theorem Try.bytesStep : Try.prog.bytesOf 66 = 32 := by kernel_rfl
theorem sts_get (ss : List Stp) (k j : Nat) (hk : k < ss.length) (hj : j < 4) : (sts ss)[k * 4 + j]? = (stC (stp ss k))[j]? := by
  rw [← stp_eq ss k hk]
  exact flat_at (f := stC) (fun _ => rfl) ss k j hk hj
set_option maxRecDepth 100000 in
theorem open_step_cells {H : Type} {enc : TypeId × Value → H} {W : World} {n : Nat} {cs : List Value} {y : DataW H × List MemPlace} (h : DataW.trod enc Try.prog W 0 (fun _ => true) true n 66 cs = some y) :
    ∃ s : Stp, cs = stC s := by
  obtain ⟨y0, y1, y2, y3, m, _, hl, h0, h1, h2, h3⟩ := trod_struct4 Try.underlying66 h
  rw [Try.cellsStep] at hl
  match cs, hl with
  | [z0, z1, z2, z3], _ =>
    have g0 : DataW.trod enc Try.prog W 0 (fun _ => true) true m 64 [z0] = some y0 := by simpa [Try.cellsKind] using h0
    have g1 : DataW.trod enc Try.prog W 0 (fun _ => true) true m 3 [z1] = some y1 := by simpa [Try.cellsInt] using h1
    have g2 : DataW.trod enc Try.prog W 0 (fun _ => true) true m 3 [z2] = some y2 := by simpa [Try.cellsInt] using h2
    have g3 : DataW.trod enc Try.prog W 0 (fun _ => true) true m 39 [z3] = some y3 := by simpa [Try.cellsU32] using h3
    obtain ⟨k, e0, _, _⟩ := DataW.trod_int Try.underlying64 g0
    obtain ⟨x, e1, _, _⟩ := DataW.trod_int Try.underlying3 g1
    obtain ⟨t, e2, _, _⟩ := DataW.trod_int Try.underlying3 g2
    obtain ⟨u, e3, _, hw⟩ := DataW.trod_int Try.underlying39 g3
    simp only [List.cons.injEq, and_true] at e0 e1 e2 e3
    subst e0 e1 e2 e3
    have hb := bounds_u32 hw
    exact ⟨⟨k, x, t, BitVec.ofInt 32 u⟩, by unfold stC; rw [uz_of _ hb.1 (by omega)]⟩
set_option maxRecDepth 100000 in
/-- A slice of steps, an argument by itself. -/
theorem open_steps_ {H : Type} {enc : TypeId × Value → H} {W : World} {r : Reach} {b0 : Nat} {v : Value} {d : DataW H} {p : List MemPlace}
    (hv : Value.okWide Try.prog W r b0 54 v) (h : DataW.Trod enc Try.prog W 0 (fun _ => true) true 54 v d p) :
    ∃ (A : Option Addr) (ss : List Stp) (c : Nat), v = .slice A ss.length c ∧ Rd W W.heap.size A (sts ss) ∧ ((DataW.weights Try.prog 54 d).all (· ≤ reachBytes) = true → ss.length ≤ 4398046511104) := by
  obtain ⟨a, len, cap, rfl⟩ := okWide_slice Try.underlying54 hv
  obtain ⟨fuel, hf⟩ := h
  rcases Deep.open_slice Try.underlying54 hf with ⟨e1, _⟩ | ⟨a', len', cap', m, n, D, Pl, e1, _, hle, _, hm, hx, hc⟩
  · have e2 : Value.slice a len cap = .slice none 0 0 := by simpa [Value.cells] using e1
    exact ⟨none, [], 0, e2, Rd.nil, fun _ => Nat.zero_le _⟩
  · have e2 : Value.slice a len cap = .slice (some a') len' cap' := by simpa [Value.cells] using e1
    have hm' : len' ≤ m := by rw [hm]; simpa using hle
    obtain ⟨S, hS⟩ := Deep.choose_lt (α := Stp) (n := len') (p := fun i s => ∀ j, j < 4 → W.cell? (a'.add (i * 4 + j)) = (stC s)[j]?) (fun i hi => by
      obtain ⟨cs', h1, h2⟩ := hc i (by omega)
      rw [Try.cellsStep] at h1
      obtain ⟨s, rfl⟩ := open_step_cells h2
      obtain ⟨_, hlen, hcell⟩ := World.cells?_some h1
      refine ⟨s, fun j hj => ?_⟩
      have := hcell j hj
      rw [Deep.add_add] at this
      exact this)
    have hl : ((List.range len').map S).length = len' := by simp
    have hst : ∀ i, i < len' → stp ((List.range len').map S) i = S i := fun i hi => by unfold stp; simp [List.getD, hi]
    refine ⟨some a', (List.range len').map S, cap', by rw [hl]; exact e2, fun k hk => ?_, fun hw => ?_⟩
    · have hk' : k < len' * 4 := by rw [sts_length, hl] at hk; exact hk
      have hd : k = k / 4 * 4 + k % 4 := by omega
      have hcell := hS (k / 4) (by omega) (k % 4) (by omega)
      have hg := sts_get ((List.range len').map S) (k / 4) (k % 4) (by omega) (by omega)
      rw [hst _ (by omega), ← hcell, ← hd] at hg
      rw [List.getElem?_eq_getElem hk] at hg
      refine ⟨a', rfl, ?_, hg.symm⟩
      have := World.block_lt_of_cell? _ _ hg.symm
      rwa [block_add] at this
    · rw [hl]
      simp only [Prod.mk.injEq] at hx
      rw [hx.1] at hw
      have := List.all_eq_true.1 hw ((((List.range len').map D).length + ((List.range (m - len')).map fun j => D (len' + j)).length) * Try.prog.bytesOf 66) (by simp [DataW.weights, Try.underlying54])
      rw [Try.bytesStep] at this
      have h2 := of_decide_eq_true this
      simp only [reachBytes, List.length_map, List.length_range] at h2
      omega
end Go.Proofs.Ytkenbmelhfhidaa
