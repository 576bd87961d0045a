/- Several texts in one: C17a C17b C17c C17d C17e C17f ClassLaw2 C17g. -/
import Derived.Test.YtdemmjofggemhaaDoorBF
import Derived.Test.YtdemmjofggemhaaDoorBD
import Derived.Deep.RegionHeld3
import Derived.Test.YtdemmjofggemhaaDoorBE
/- The contracts of classify.good, covered, Extended and of osierref17.Good, Covered, Extended; of slices.Clone over words. -/
namespace Go.Proofs.YtdemmjofggemhaaDoor
open Go.RowKit

attribute [local go_sem ↓] uz_and uz_or uz_andNot uz_and_one uz_shr uz_shl_one uz_shl uz_sub uz_sub_one uz_add uz_beq_zero uz_bne_zero uz_beq uz_bne uz_beq_one

set_option maxRecDepth 100000 in
theorem clone_u32_any (ad : Addr) (E : List (BitVec 32)) (c : Nat) (w : World) (hl : E.length ≤ 100) (hE : Rd w w.heap.size (some ad) (us E)) :
    Calls Tryd.prog 23 #[.slice (some ad) E.length c] w fun e w' => ∃ v, e = .returned v ∧ w'.ownsRow w.heap.size 62 1 v E.length (us E) ∧ Below w.heap.size w w' := by
  obtain ⟨i, hi, hz, hs1, hb1⟩ := info_parts Tryd.info_u32
  have hnil : (binOp .eql 59 (.slice (some ad) E.length c) (.slice none 0 0)).run Tryd.prog w = .ok (.bool false) w := by
    simp [binOp, run_equal_slice_nil w 59 62 (some ad) E.length c Tryd.underlying59]
  go_enter Tryd.func23, Tryd.ntmps23
  go_wp2_with ((with_reducible show wpList _ _ _ _ _ _); refine wpList_append_own_at _ rfl (.tmp 5) (.tmp 6) 59 rfl w.heap.size 62 i (.int .u32 0) 1 4 Tryd.underlying59 hi hz hs1 hb1 rfl (by decide) _ 0 [] rfl (empty_own w 62) ad E.length c (us E) rfl (by simp) ((hE.below (below_alloc w _)).news) (us_one E) (by unfold maxLen; omega) (by omega) (by simp) ?_)
  intro v' w' hown hg _ _
  go_wp2_with fail
  go_ret
  exact ⟨_, rfl, hown, ((Below.refl _ _).alloc (Nat.le_refl _) _).grown hg (by simp) fun k hk => by
    simp only [Value.ownBlock, Option.some.injEq] at hk
    omega⟩

end Go.Proofs.YtdemmjofggemhaaDoor

/- The contract of classify.where: the edges that have a vertex, as bits. -/
namespace Go.Proofs.YtdemmjofggemhaaDoor
open Go.RowKit
attribute [local go_sem ↓] uz_and uz_or uz_andNot uz_and_one uz_shr uz_shl

end Go.Proofs.YtdemmjofggemhaaDoor

/- The contract of classify.Clash. -/
namespace Go.Proofs.YtdemmjofggemhaaDoor
open Go.RowKit
attribute [local go_sem ↓] uz_and uz_or uz_andNot uz_and_one uz_shr uz_shl_one uz_shl uz_sub uz_sub_one uz_add uz_beq_zero uz_bne_zero uz_beq uz_bne uz_beq_one
attribute [local go_sem ↓] Go.wp_at_zero Go.wp_at_succ

end Go.Proofs.YtdemmjofggemhaaDoor

/- The contract of classify.Classify. -/
namespace Go.Proofs.YtdemmjofggemhaaDoor
open Go.RowKit

end Go.Proofs.YtdemmjofggemhaaDoor

/- The contract of osierlaw17.awake. -/
namespace Go.Proofs.YtdemmjofggemhaaDoor
open Go.RowKit
end Go.Proofs.YtdemmjofggemhaaDoor

/- The contract of osierref17.Clash. -/
namespace Go.Proofs.YtdemmjofggemhaaDoor
open Go.RowKit
attribute [local go_sem ↓] uz_and uz_or uz_andNot uz_and_one uz_shr uz_shl_one uz_shl uz_sub uz_sub_one uz_add uz_beq_zero uz_bne_zero uz_beq uz_bne uz_beq_one
attribute [local go_sem ↓] Go.wp_at_zero Go.wp_at_succ

end Go.Proofs.YtdemmjofggemhaaDoor

/- The plain laws of ClassifyChain and ClassifyAlike. -/
namespace Go.Proofs.YtdemmjofggemhaaDoor

end Go.Proofs.YtdemmjofggemhaaDoor

/- The contract of osierref17.Classify. -/
namespace Go.Proofs.YtdemmjofggemhaaDoor
open Go.RowKit

end Go.Proofs.YtdemmjofggemhaaDoor
