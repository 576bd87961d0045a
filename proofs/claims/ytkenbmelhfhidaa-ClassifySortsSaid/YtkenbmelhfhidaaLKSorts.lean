/- The walk of osierlaw17.ClassifySorts. -/
import Derived.Test.YtkenbmelhfhidaaC17g
import Derived.Test.YtkenbmelhfhidaaCuts
namespace Go.Proofs.Ytkenbmelhfhidaa
open Go.RowKit

set_option maxHeartbeats 40000000 in
set_option maxRecDepth 100000 in
theorem law_ksorts (V : Int) (A : Option Addr) (E : List (BitVec 32)) (c : Nat) (head : BitVec 32) (w : World) (hl : E.length ≤ 35184372087808) (hE : Rd w w.heap.size A (us E)) :
    Calls Try.prog 19 #[.agg #[.int .i64 V, .slice A E.length c], .int .u32 (uz head)] w fun e w' => e = .returned (.bool true) ∧ Below w.heap.size w w' := by
  go_enter Try.func19, Try.ntmps19
  go_wp2_with fail
  have hb0 := below_alloc w (.cells #[.int .i64 V, .slice A E.length c] 24)
  have hG0 : Row (w.alloc (.cells #[.int .i64 V, .slice A E.length c] 24)) w.heap.size 24 [.int .i64 V, .slice A E.length c] := Row.new _ _ _
  generalize w.alloc _ = w0 at hb0 hG0 ⊢
  refine (copy_any V A E c _ hl (hE.later hb0)).mono ?_
  rintro e w1 ⟨g, rfl, hg, hRg, hb1⟩
  have hB1 := bthen hb0 hb1
  have hG1 := hG0.later hb1
  go_upto_region 2 with fail
  have hb2 := below_alloc w1 (.cells #[.int .i64 V, .slice (some ⟨g, 0, none⟩) E.length E.length] 24)
  have hI2 : Row (w1.alloc (.cells #[.int .i64 V, .slice (some ⟨g, 0, none⟩) E.length E.length] 24)) w1.heap.size 24 [.int .i64 V, .slice (some ⟨g, 0, none⟩) E.length E.length] := Row.new _ _ _
  have hB2 := bthen hB1 hb2
  have hG2 := hG1.later hb2
  have hRg2 := hRg.later hb2
  have hE2 := hE.later hB2
  generalize w1.heap.size = q at hI2 ⊢
  generalize w1.alloc _ = w2 at hI2 hB2 hG2 hRg2 hE2 ⊢
  have d0 : w2.cell? ⟨q, 0, none⟩ = some (.int .i64 V) := hI2.cell 0
  have d1 : w2.cell? ⟨q, 1, none⟩ = some (.slice (some ⟨g, 0, none⟩) E.length E.length) := hI2.cell 1
  clear hb2 hG1 hB1 hb1 hRg hG0 hb0 hE
  go_wp2_with fail
  refine (classify_any V ⟨g, 0, none⟩ E E.length head w2 hl hRg2.rd).mono ?_
  rintro e w3 ⟨a, x, h, code, rfl, hC, hb3⟩
  have hB3 := bthen hB2 hb3
  have hG3 := hG2.later hb3
  have hI3 := hI2.later hb3
  have hRg3 := hRg2.later hb3
  have hE3 := hE2.later hb3
  clear d0 d1 hB2 hG2 hI2 hRg2 hE2 hb3
  go_upto_region 3 with fail
  have hb4 := below_alloc w3 (.cells #[.bool a, .bool x, .bool h] 94)
  have hK4 : Row (w3.alloc (.cells #[.bool a, .bool x, .bool h] 94)) w3.heap.size 94 [.bool a, .bool x, .bool h] := Row.new _ _ _
  have hB4 := bthen hB3 hb4
  have hG4 := hG3.later hb4
  have hI4 := hI3.later hb4
  have hRg4 := hRg3.later hb4
  have hE4 := hE3.later hb4
  generalize w3.heap.size = p at hK4 ⊢
  generalize w3.alloc _ = w4 at hK4 hB4 hG4 hI4 hRg4 hE4 ⊢
  have d0 : w4.cell? ⟨w.heap.size, 0, none⟩ = some (.int .i64 V) := hG4.cell 0
  have d1 : w4.cell? ⟨w.heap.size, 1, none⟩ = some (.slice A E.length c) := hG4.cell 1
  clear hb4 hB3 hG3 hI3 hRg3 hE3
  go_wp2_with fail
  refine (r17classify_any V A E c head w4 hl hE4).mono ?_
  rintro e w5 ⟨a', x', h', code', rfl, hC', hb5⟩
  obtain ⟨e1, e2, e3, e4⟩ := class_uniq hC.out hC'.out
  subst e1 e2 e3 e4
  have hB5 := bthen hB4 hb5
  have hG5 := hG4.later hb5
  have hI5 := hI4.later hb5
  have hK5 := hK4.later hb5
  have hRg5 := hRg4.later hb5
  have hE5 := hE4.later hb5
  clear hC hC' d0 d1 hb5 hB4 hG4 hI4 hK4 hRg4 hE4
  go_wp2_with fail
  refine (awake17_any w5).mono ?_
  rintro e w6 ⟨rfl, hb6⟩
  have hB6 := bthen hB5 hb6
  have hG6 := hG5.later hb6
  have hI6 := hI5.later hb6
  have hK6 := hK5.later hb6
  have hRg6 := hRg5.later hb6
  have hE6 := hE5.later hb6
  clear hb6 hB5 hG5 hI5 hK5 hRg5 hE5
  have d0 : w6.cell? ⟨w.heap.size, 0, none⟩ = some (.int .i64 V) := hG6.cell 0
  have d1 : w6.cell? ⟨w.heap.size, 1, none⟩ = some (.slice A E.length c) := hG6.cell 1
  have k0 : w6.cell? ⟨p, 0, none⟩ = some (.bool a) := hK6.cell 0
  have k1 : w6.cell? ⟨p, 1, none⟩ = some (.bool x) := hK6.cell 1
  have k2 : w6.cell? ⟨p, 2, none⟩ = some (.bool h) := hK6.cell 2
  have j0 : w6.cell? ⟨q, 0, none⟩ = some (.int .i64 V) := hI6.cell 0
  have j1 : w6.cell? ⟨q, 1, none⟩ = some (.slice (some ⟨g, 0, none⟩) E.length E.length) := hI6.cell 1
  have HSM : Hid (Calls Try.prog 34 #[.agg #[.int .i64 V, .slice (some ⟨g, 0, none⟩) E.length E.length], .agg #[.int .i64 V, .slice A E.length c]] w6 fun e w' => e = .returned (.bool true) ∧ Below w6.heap.size w6 w') := Lib.hid (by
    have := same_any V V (some ⟨g, 0, none⟩) A E E E.length c w6 hl hl hRg6.rd hE6
    rw [show sameG V V E E = true by simp [sameG]] at this
    exact this)
  clear hG6 hK6 hI6 hRg6 hE6
  go_wp2_with fail
  refine HSM.out.mono ?_
  rintro e w7 ⟨rfl, hb7⟩
  go_wp2_with fail
  go_ret
  exact ⟨rfl, bthen hB6 hb7⟩
end Go.Proofs.Ytkenbmelhfhidaa
