/- Several texts in one: JtW1 JtW4 JtW5 JtW6 JtW7 JtW8. -/
import Derived.Test.YtdemmjofggemhaaDoorBA
import Derived.Test.YtdemmjofggemhaaDoorBB
import Derived.Deep.RegionWith
import Derived.Deep.DrawnRows
import Derived.Deep.QuietTactic
import Derived.StillTailTactics
/- The contracts of jointree.IsTree and jointree.Check. -/
namespace Go.Proofs.YtdemmjofggemhaaDoor
open Go.RowKit

attribute [local go_sem ↓] uz_and uz_or uz_andNot uz_and_one uz_shr uz_shl_one uz_shl uz_sub uz_sub_one uz_add uz_beq_zero uz_bne_zero uz_beq uz_bne uz_beq_one

theorem Rd.p_at {w : World} {B : Nat} {A : Option Addr} {P : List Int} (h : Rd w B A (is P)) {k : Nat} (hk : k < P.length) :
    ∃ ad, A = some ad ∧ ad.block < B ∧ w.cell? (ad.add k) = some (.int .i64 (pz P k)) := by
  rw [← pz_eq P k hk]; exact h.i_at hk
end Go.Proofs.YtdemmjofggemhaaDoor

/- The contracts of osierref16.IsTree and reached. -/
namespace Go.Proofs.YtdemmjofggemhaaDoor
open Go.RowKit

attribute [local go_sem ↓] uz_and uz_or uz_andNot uz_and_one uz_shr uz_shl_one uz_shl uz_sub uz_sub_one uz_add uz_beq_zero uz_bne_zero uz_beq uz_bne uz_beq_one

end Go.Proofs.YtdemmjofggemhaaDoor

/- The contracts of osierref16.way, has, Between. -/
namespace Go.Proofs.YtdemmjofggemhaaDoor
open Go.RowKit

end Go.Proofs.YtdemmjofggemhaaDoor

/- The contract of osierref16.Check. -/
namespace Go.Proofs.YtdemmjofggemhaaDoor
open Go.RowKit

attribute [local go_sem ↓] uz_and uz_or uz_andNot uz_and_one uz_shr uz_shl_one uz_shl uz_sub uz_sub_one uz_add uz_beq_zero uz_bne_zero uz_beq uz_bne uz_beq_one

end Go.Proofs.YtdemmjofggemhaaDoor

/- The contracts of osierref14.Size, osierref15.SameSets, jointree.Keys, osierref16.Keys. -/
namespace Go.Proofs.YtdemmjofggemhaaDoor
open Go.RowKit

attribute [local go_sem ↓] uz_and uz_or uz_andNot uz_and_one uz_shr uz_shl_one uz_shl uz_sub uz_sub_one uz_add uz_beq_zero uz_bne_zero uz_beq uz_bne uz_beq_one

end Go.Proofs.YtdemmjofggemhaaDoor

/- The contracts of jointree.Keys and osierref16.Keys. -/
namespace Go.Proofs.YtdemmjofggemhaaDoor
open Go.RowKit

attribute [local go_sem ↓] uz_and uz_or uz_andNot uz_and_one uz_shr uz_shl_one uz_shl uz_sub uz_sub_one uz_add uz_beq_zero uz_bne_zero uz_beq uz_bne uz_beq_one

/-- n words, told by a function. -/
def wrow (n : Nat) (f : Nat → BitVec 32) : List (BitVec 32) := (List.range n).map f
@[simp] theorem wrow_length (n : Nat) (f : Nat → BitVec 32) : (wrow n f).length = n := by simp [wrow]
theorem wrow_set (n : Nat) (f : Nat → BitVec 32) (k : Nat) (x : BitVec 32) : (us (wrow n f)).set k (.int .u32 (uz x)) = us (wrow n (updS f k x)) := by
  unfold us wrow
  rw [List.map_map, List.map_map]
  apply List.ext_getElem?
  intro i
  rw [List.getElem?_set, List.getElem?_map, List.getElem?_map]
  by_cases h : k = i
  · subst h
    by_cases h2 : k < n <;> simp [h2, updS]
  · rw [if_neg h]
    by_cases h2 : i < n <;> simp [h2, updS, Ne.symm h]
end Go.Proofs.YtdemmjofggemhaaDoor
