/- The walk of osierlaw16.JointreeKeys. -/
import Derived.Test.YtkenbmelhfhidaaJtW3
import Derived.Test.YtkenbmelhfhidaaJtW8
namespace Go.Proofs.Ytkenbmelhfhidaa
open Go.RowKit

attribute [local go_sem ↓] Go.wp_at_zero Go.wp_at_succ

theorem keysB_len {V : Int} {E : List (BitVec 32)} {P : List Int} : (keysB V E P).length ≤ P.length := by
  unfold keysB keyL
  split <;> simp

set_option maxHeartbeats 4000000 in
set_option maxRecDepth 100000 in
theorem law_jkeys (V : Int) (A : Option Addr) (E : List (BitVec 32)) (c : Nat) (A' : Option Addr) (P : List Int) (c' : Nat) (w : World) (hl : E.length ≤ 35184372087808) (hE : Rd w w.heap.size A (us E)) (hl' : P.length ≤ 35184372087808) (hP : Rd w w.heap.size A' (is P)) :
    Calls Try.prog 7 #[.agg #[.int .i64 V, .slice A E.length c], .slice A' P.length c'] w fun e w' => e = .returned (.bool true) ∧ Below w.heap.size w w' := by
  go_enter Try.func7, Try.ntmps7
  go_wp2_with fail
  have hb0 := below_alloc w (.cells #[.int .i64 V, .slice A E.length c] 24)
  have hG0 : Row (w.alloc (.cells #[.int .i64 V, .slice A E.length c] 24)) w.heap.size 24 [.int .i64 V, .slice A E.length c] := Row.new _ _ _
  generalize w.alloc _ = w0 at hb0 hG0 ⊢
  refine (copy_any V A E c _ hl (hE.later hb0)).mono ?_
  rintro e w1 ⟨g, rfl, hg, hRg, hb1⟩
  have hG1 := hG0.later hb1
  have hlt1 := hG1.lt
  replace hb1 := bthen hb0 hb1
  go_wp2_with fail
  refine (ints_any A' P c' w1 hl' (hP.later hb1)).mono ?_
  rintro e w2 ⟨h, rfl, hh, hRh, hb2⟩
  have hB2 := bthen hb1 hb2
  have hG2 := hG1.later hb2
  have hRg2 := hRg.later hb2
  go_wp2_with fail
  refine (keys_any V _ _ E P _ _ w2 hl hl' hRg2.rd hRh.rd).mono ?_
  rintro e w3 ⟨B, d, rfl, hK, hb3⟩
  have hB3 := bthen hB2 hb3
  have hG3 := hG2.later hb3
  have d0 : w3.cell? ⟨w.heap.size, 0, none⟩ = some (.int .i64 V) := hG3.cell 0
  have d1 : w3.cell? ⟨w.heap.size, 1, none⟩ = some (.slice A E.length c) := hG3.cell 1
  go_wp2_with fail
  refine (r16keys_any V A A' E P c c' w3 hl hl' (hE.later hB3) (hP.later hB3)).mono ?_
  rintro e w4 ⟨B', d', rfl, hK', hb4⟩
  have hB4 := bthen hB3 hb4
  have hK4 := hK.later hb4
  have hkl : (keysB V E P).length ≤ 35184372087808 := by have := @keysB_len V E P; omega
  clear hg hRg hb1 hh hRh hb2 hRg2 hb3 hb4 hK hb0 hG0 hG1 hG2 hG3 d0 d1
  generalize keysB V E P = L at hK4 hK' hkl ⊢
  generalize keysC V E P = code
  go_wp2_with fail
  refine (awake16_any w4).mono ?_
  rintro e w5 ⟨rfl, hb5⟩
  have hB5 := bthen hB4 hb5
  have HS : Hid (Calls Try.prog 44 #[.slice B L.length d, .slice B' L.length d'] w5 fun e w' => e = .returned (.bool true) ∧ ∃ n, w' = w5.drewN n) := Lib.hid (by
    have := sameSets_any B B' L L d d' w5 hkl hkl (hK4.later hb5) (hK'.later hb5)
    rw [beq_self_eq_true] at this
    exact this)
  go_wp2_with fail
  refine HS.out.mono ?_
  rintro e w6 ⟨rfl, n, rfl⟩
  go_wp2_with fail
  go_ret
  exact ⟨rfl, below_drewN hB5 n⟩
end Go.Proofs.Ytkenbmelhfhidaa
