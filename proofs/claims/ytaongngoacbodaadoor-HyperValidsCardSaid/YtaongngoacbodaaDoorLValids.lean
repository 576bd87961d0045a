/- The walk of osierlaw14.HyperValids. -/
import Derived.Test.YtaongngoacbodaaDoorAwake14
import Derived.Deep.RegionWith
import Derived.Deep.DrawnRows
namespace Go.Proofs.YtaongngoacbodaaDoor
open Go.RowKit

attribute [local go_sem ↓] uz_and uz_or uz_andNot uz_and_one uz_shr uz_shl_one uz_shl uz_sub uz_sub_one uz_add uz_beq_zero uz_bne_zero uz_beq uz_bne uz_beq_one

attribute [local go_sem ↓] Go.wp_at_zero Go.wp_at_succ

set_option maxHeartbeats 2000000 in
theorem law_valids (V : Int) (A : Option Addr) (E : List (BitVec 32)) (c : Nat) (w : World) (hl : E.length ≤ 35184372087808) (hE : Rd w w.heap.size A (us E)) (hT : Tab w) :
    Calls Tryd.prog 3 #[.agg #[.int .i64 V, .slice A E.length c]] w fun e w' => e = .returned (.bool true) ∧ Below w.heap.size w w' := by
  go_enter Tryd.func3, Tryd.ntmps3
  go_wp2_with fail
  have hb0 := below_alloc w (.cells #[.int .i64 V, .slice A E.length c] 24)
  have hc0 : (w.alloc (.cells #[.int .i64 V, .slice A E.length c] 24)).cell? ⟨w.heap.size, 0, none⟩ = some (.int .i64 V) := by simp
  have hc1 : (w.alloc (.cells #[.int .i64 V, .slice A E.length c] 24)).cell? ⟨w.heap.size, 1, none⟩ = some (.slice A E.length c) := by simp
  generalize w.alloc _ = w0 at hb0 hc0 hc1 ⊢
  have hbd : Below w.heap.size w w0.drew := hb0.drew
  go_cut [2] (fun x wx => x = .bool true ∧ Below w.heap.size w wx)
  case first =>
    go_region_with (first
      | (go_at_call 11; refine (awake_any _ (hT.later hbd)).mono ?_; rintro e w1 ⟨rfl, hb1⟩; have c10 := Tab_cell hb1 hc0; have c11 := Tab_cell hb1 hc1; have H1 := bthen hbd hb1)
      | (go_at_call 13; refine (copy_any V A E c _ hl (hE.later H1)).mono ?_; rintro e w2 ⟨g, rfl, hg, hR, hb2⟩; have c20 := Tab_cell hb2 c10; have c21 := Tab_cell hb2 c11; have H2 := bthen H1 hb2)
      | (go_at_call 12; refine (valid_any V (some ⟨g, 0, none⟩) E E.length _ hl hR.rd).mono ?_; rintro e w3 ⟨rfl, hb3⟩; have c30 := Tab_cell hb3 c20; have c31 := Tab_cell hb3 c21; have H3 := bthen H2 hb3)
      | (go_at_call 14; refine (r14valid_any V A E c _ hl (hE.later H3)).mono ?_; rintro e w4 ⟨rfl, hb4⟩; have H4 := bthen H3 hb4))
    all_goals (go_wp2_with fail; go_meet; exact ⟨by simp, H4⟩)
  case rest =>
    obtain ⟨rfl, hb⟩ := hcut
    go_wp2
    go_ret
    exact ⟨rfl, hb⟩
end Go.Proofs.YtaongngoacbodaaDoor
