/- The i-th edge; calls that leave the world as it is. -/
import Derived.Test.YtaongngoacbodaaDoorGr3
import Derived.Deep.DeepCutAuto
import Derived.Deep.LoopGhost
import Derived.Deep.CutBlock
import Derived.Deep.CutRange
import Derived.WalkMore
namespace Go.Proofs.YtaongngoacbodaaDoor
open Go.RowKit

attribute [local go_sem ↓] uz_and uz_or uz_andNot uz_and_one uz_shr uz_shl_one uz_shl uz_sub uz_sub_one uz_add uz_beq_zero uz_bne_zero uz_beq uz_bne uz_beq_one

/-- The i-th edge. -/
def ed (E : List (BitVec 32)) (i : Nat) : BitVec 32 := E.getD i 0#32
theorem ed_eq (E : List (BitVec 32)) (i : Nat) (h : i < E.length) : E[i] = ed E i := by simp [ed, h]
theorem ed_mem (E : List (BitVec 32)) (i : Nat) (h : i < E.length) : ed E i ∈ E := by rw [← ed_eq E i h]; exact List.getElem_mem _
theorem mem_ed {E : List (BitVec 32)} {x : BitVec 32} (h : x ∈ E) : ∃ i, i < E.length ∧ ed E i = x := by
  obtain ⟨i, hi, rfl⟩ := List.getElem_of_mem h
  exact ⟨i, hi, (ed_eq E i hi).symm⟩
theorem Rd.e_at {w : World} {B : Nat} {A : Option Addr} {E : List (BitVec 32)} (h : Rd w B A (us E)) {k : Nat} (hk : k < E.length) :
    ∃ ad, A = some ad ∧ ad.block < B ∧ w.cell? (ad.add k) = some (.int .u32 (uz (ed E k))) := by
  rw [← ed_eq E k hk]; exact h.u_at hk
theorem nat_bne (k m : Nat) : ((k : Int) != (m : Int)) = (k != m) := by
  rw [Bool.eq_iff_iff, bne_iff_ne, bne_iff_ne]; omega
theorem range_snoc_any (p : Nat → Bool) (k : Nat) : (List.range (k + 1)).any p = ((List.range k).any p || p k) := by
  rw [List.range_succ]; simp

/-- A call that leaves the world as it is, in a world of the class. -/
theorem pure_class {f : FuncId} {args : Array Value} {v : Value} (h : ∀ w, Calls Tryd.prog f args w fun e w' => e = .returned v ∧ w = w') (w1 : World) (d : Nat) (os : Array Obj) :
    Calls Tryd.prog f args (Sort.grow (redrawn w1 d) os) fun e w'' => e = .returned v ∧ ∃ p : Regrown, w'' = Sort.grow (redrawn w1 p.d) p.os :=
  Calls.regrown_of ((h _).mono fun e w' ⟨he, hw⟩ => ⟨he, by rw [← hw]; exact Below.refl _ _⟩)

theorem pure_quiet {f : FuncId} {args : Array Value} {v : Value} (h : ∀ w, Calls Tryd.prog f args w fun e w' => e = .returned v ∧ w = w') {w : World} {n : Nat} :
    Calls Tryd.prog f args (w.drewN n) fun e w'' => e = .returned v ∧ ∃ m, w'' = w.drewN m :=
  (h _).mono fun _ _ ⟨he, hm⟩ => ⟨he, n, hm.symm⟩

end Go.Proofs.YtaongngoacbodaaDoor
