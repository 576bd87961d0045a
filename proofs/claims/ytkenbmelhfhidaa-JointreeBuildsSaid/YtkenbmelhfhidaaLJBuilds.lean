/- The walk of osierlaw16.JointreeBuilds. -/
import Derived.Test.YtkenbmelhfhidaaR15d
import Derived.Test.YtkenbmelhfhidaaJtW3
namespace Go.Proofs.Ytkenbmelhfhidaa
open Go.RowKit

set_option maxHeartbeats 4000000 in
set_option maxRecDepth 100000 in
theorem law_jbuilds (V : Int) (A : Option Addr) (E : List (BitVec 32)) (c : Nat) (w : World) (hl : E.length ≤ 35184372087808) (hE : Rd w w.heap.size A (us E)) :
    Calls Try.prog 4 #[.agg #[.int .i64 V, .slice A E.length c]] w fun e w' => e = .returned (.bool true) ∧ Below w.heap.size w w' := by
  go_enter Try.func4, Try.ntmps4
  go_wp2_with fail
  have hb0 := below_alloc w (.cells #[.int .i64 V, .slice A E.length c] 24)
  have hG0 : Row (w.alloc (.cells #[.int .i64 V, .slice A E.length c] 24)) w.heap.size 24 [.int .i64 V, .slice A E.length c] := Row.new _ _ _
  generalize w.alloc _ = w0 at hb0 hG0 ⊢
  refine (copy_any V A E c _ hl (hE.later hb0)).mono ?_
  rintro e w1 ⟨g, rfl, hg, hRg, hb1⟩
  have hB1 := bthen hb0 hb1
  have hG1 := hG0.later hb1
  go_wp2_with fail
  refine (build_any V _ E _ w1 hl hRg.rd).mono ?_
  rintro e w2 ⟨v, Z, code, rfl, hown, hBI, hb2⟩
  have hB2 := bthen hB1 hb2
  have hG2 := hG1.later hb2
  have hE2 := hE.later hB2
  have d0 : w2.cell? ⟨w.heap.size, 0, none⟩ = some (.int .i64 V) := hG2.cell 0
  have d1 : w2.cell? ⟨w.heap.size, 1, none⟩ = some (.slice A E.length c) := hG2.cell 1
  obtain ⟨A', c', rfl, _, _, hZ, _⟩ := Rd.of_own hown
  clear hE hb0 hG0 hg hRg hb1 hB1 hG1 hb2 hown
  go_wp2_with fail
  refine (r16build_any V A E c w2 hl hE2).mono ?_
  rintro e w3 ⟨v', Y, code', rfl, hown', hBI', hb3⟩
  obtain ⟨e1, e2⟩ := buildIs_uniq hBI.out hBI'.out
  subst e1 e2
  have hZ7 := buildIs_len hBI.out
  obtain ⟨A2, c2, rfl, _, _, hY, _⟩ := Rd.of_own hown'
  have hB3 := bthen hB2 hb3
  have hZ3 := hZ.later hb3
  clear hBI hBI' hown' hb3 hZ hB2 hE2 hG2 d0 d1
  go_wp2_with fail
  refine (awake16_any w3).mono ?_
  rintro e w4 ⟨rfl, hb4⟩
  have hB4 := bthen hB3 hb4
  have HS : Hid (Calls Try.prog 35 #[.slice A' Z.length c', .slice A2 Z.length c2] w4 fun e w' => e = .returned (.bool true) ∧ ∃ n, w' = w4.drewN n) := Lib.hid (by
    have := sameInts_any A' A2 Z Z c' c2 w4 (by omega) (by omega) (hZ3.later hb4) (hY.later hb4)
    rw [beq_self_eq_true] at this
    exact this)
  go_wp2_with fail
  refine HS.out.mono ?_
  rintro e w6 ⟨rfl, n, rfl⟩
  go_wp2_with fail
  go_ret
  exact ⟨rfl, below_drewN hB4 n⟩
end Go.Proofs.Ytkenbmelhfhidaa
