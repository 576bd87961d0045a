/- The walk of osierlaw17.ClassifyClashes. -/
import Derived.Test.YtkenbmelhfhidaaC17f
namespace Go.Proofs.Ytkenbmelhfhidaa
open Go.RowKit

set_option maxHeartbeats 40000000 in
set_option maxRecDepth 100000 in
theorem law_kclash (V : Int) (A : Option Addr) (E : List (BitVec 32)) (c : Nat) (head : BitVec 32) (w : World) (hl : E.length ≤ 35184372087808) (hE : Rd w w.heap.size A (us E)) :
    Calls Try.prog 21 #[.agg #[.int .i64 V, .slice A E.length c], .int .u32 (uz head)] w fun e w' => e = .returned (.bool true) ∧ Below w.heap.size w w' := by
  go_enter Try.func21, Try.ntmps21
  go_wp2_with fail
  have hb0 := below_alloc w (.cells #[.int .i64 V, .slice A E.length c] 24)
  have hG0 : Row (w.alloc (.cells #[.int .i64 V, .slice A E.length c] 24)) w.heap.size 24 [.int .i64 V, .slice A E.length c] := Row.new _ _ _
  generalize w.alloc _ = w0 at hb0 hG0 ⊢
  refine (copy_any V A E c _ hl (hE.later hb0)).mono ?_
  rintro e w1 ⟨g, rfl, hg, hRg, hb1⟩
  have hB1 := bthen hb0 hb1
  have hG1 := hG0.later hb1
  go_wp2_with fail
  refine (clash_any V (some ⟨g, 0, none⟩) E E.length head w1 hl hRg.rd).mono ?_
  rintro e w2 ⟨x, y, ok, code, rfl, hC, hb2⟩
  have hB2 := bthen hB1 hb2
  have hG2 := hG1.later hb2
  have hE2 := hE.later hB2
  have d0 : w2.cell? ⟨w.heap.size, 0, none⟩ = some (.int .i64 V) := hG2.cell 0
  have d1 : w2.cell? ⟨w.heap.size, 1, none⟩ = some (.slice A E.length c) := hG2.cell 1
  clear hb0 hb1 hb2 hG0 hG1 hB1 hRg hg hE
  go_wp2_with fail
  refine (r17clash_any V A E c head w2 hl hE2).mono ?_
  rintro e w3 ⟨x', y', ok', code', rfl, hC', hb3⟩
  obtain ⟨e1, e2, e3, e4⟩ := clashIs_uniq hC.out hC'.out
  subst e1 e2 e3 e4
  have hB3 := bthen hB2 hb3
  clear hC hC' hb3 hG2 hE2 hB2 d0 d1
  go_wp2_with fail
  refine (awake17_any w3).mono ?_
  rintro e w4 ⟨rfl, hb4⟩
  go_wp2_with fail
  go_ret
  exact ⟨rfl, bthen hB3 hb4⟩
end Go.Proofs.Ytkenbmelhfhidaa
