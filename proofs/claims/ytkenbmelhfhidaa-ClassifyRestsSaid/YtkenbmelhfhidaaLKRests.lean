/- The walk of osierlaw17.ClassifyRests. -/
import Derived.Test.YtkenbmelhfhidaaC17h
namespace Go.Proofs.Ytkenbmelhfhidaa
open Go.RowKit

set_option maxHeartbeats 40000000 in
set_option maxRecDepth 100000 in
theorem law_krests (V : Int) (A : Option Addr) (E : List (BitVec 32)) (c : Nat) (head : BitVec 32) (w : World) (hl : E.length ≤ 35184372087808) (hE : Rd w w.heap.size A (us E)) :
    Calls Try.prog 24 #[.agg #[.int .i64 V, .slice A E.length c], .int .u32 (uz head)] w fun e w' => e = .returned (.bool true) ∧ Below w.heap.size w w' := by
  go_enter Try.func24, Try.ntmps24
  go_wp2_with fail
  have hb0 := below_alloc w (.cells #[.int .i64 V, .slice A E.length c] 24)
  have hG0 : Row (w.alloc (.cells #[.int .i64 V, .slice A E.length c] 24)) w.heap.size 24 [.int .i64 V, .slice A E.length c] := Row.new _ _ _
  generalize w.alloc _ = w0 at hb0 hG0 ⊢
  refine (copy_any V A E c _ hl (hE.later hb0)).mono ?_
  rintro e w1 ⟨g, rfl, hg, hRg, hb1⟩
  have hB1 := bthen hb0 hb1
  have hG1 := hG0.later hb1
  go_wp2_with fail
  refine (rest17_any V ⟨g, 0, none⟩ E E.length head w1 hl hRg.rd).mono ?_
  rintro e w2 ⟨v, Z, code, rfl, hown, hC, hb2⟩
  have h7 := rest17_len hC.out
  obtain ⟨A1, c1, rfl, _, _, hZ2, _⟩ := Rd.of_own hown
  have hB2 := bthen hB1 hb2
  have hG2 := hG1.later hb2
  have hE2 := hE.later hB2
  have d0 : w2.cell? ⟨w.heap.size, 0, none⟩ = some (.int .i64 V) := hG2.cell 0
  have d1 : w2.cell? ⟨w.heap.size, 1, none⟩ = some (.slice A E.length c) := hG2.cell 1
  clear hb0 hb1 hb2 hG0 hG1 hB1 hRg hg hE hown
  go_wp2_with fail
  refine (r17rest_any V A E c head w2 hl hE2).mono ?_
  rintro e w3 ⟨v', Z', code', rfl, hown', hC', hb3⟩
  obtain ⟨e1, e2⟩ := rest17_uniq hC.out hC'.out
  subst e1 e2
  obtain ⟨A2, c2, rfl, _, _, hY3, _⟩ := Rd.of_own hown'
  have hB3 := bthen hB2 hb3
  have hZ3 := hZ2.later hb3
  clear hC hC' hb3 hG2 hE2 hB2 d0 d1 hown' hZ2
  go_wp2_with fail
  refine (awake17_any w3).mono ?_
  rintro e w4 ⟨rfl, hb4⟩
  have hB4 := bthen hB3 hb4
  have hZ4 := hZ3.later hb4
  have hY4 := hY3.later hb4
  have HS : Hid (Calls Try.prog 44 #[.slice A1 Z.length c1, .slice A2 Z.length c2] w4 fun e w' => e = .returned (.bool true) ∧ ∃ n, w' = w4.drewN n) := Lib.hid (by
    have := sameSets_any A1 A2 Z Z c1 c2 w4 (by omega) (by omega) hZ4 hY4
    rw [show (Z == Z) = true by simp] at this
    exact this)
  clear hZ4 hY4 hZ3 hY3 hB3 hb4
  go_wp2_with fail
  refine HS.out.mono ?_
  rintro e w5 ⟨rfl, m, rfl⟩
  go_wp2_with fail
  go_ret
  exact ⟨rfl, below_drewN hB4 _⟩
end Go.Proofs.Ytkenbmelhfhidaa
