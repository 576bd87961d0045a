/- The walk of osierlaw16.JointreeTurns. -/
import Derived.Test.YtkenbmelhfhidaaJtOrd2
import Derived.Test.YtkenbmelhfhidaaJtW3
namespace Go.Proofs.Ytkenbmelhfhidaa
open Go.RowKit

set_option maxHeartbeats 4000000 in
set_option maxRecDepth 100000 in
theorem law_jturns (A : Option Addr) (P : List Int) (c : Nat) (root : Int) (w : World) (hl : P.length ≤ 35184372087808) (hP : Rd w w.heap.size A (is P)) :
    Calls Try.prog 10 #[.slice A P.length c, .int .i64 root] w fun e w' => e = .returned (.bool true) ∧ Below w.heap.size w w' := by
  go_enter Try.func10, Try.ntmps10
  go_wp2_with fail
  refine (ints_any A P c w hl hP).mono ?_
  rintro e w1 ⟨g, rfl, hg, hR1, hb1⟩
  have hP1 := hP.later hb1
  clear hg
  go_wp2_with fail
  refine (reroot_any _ P _ root w1 hl hR1.rd).mono ?_
  rintro e w2 ⟨v2, Z, code, rfl, hown2, hZI, hb2⟩
  have hB2 := bthen hb1 hb2
  have hR2 := hR1.later hb2
  have hP2 := hP.later hB2
  obtain ⟨A2, c2, rfl, _, _, hZ2, _⟩ := Rd.of_own hown2
  clear hown2 hb1 hb2 hR1 hP1
  go_wp2_with fail
  refine (r16reroot_any A P c root w2 hl hP2).mono ?_
  rintro e w3 ⟨v3, Y, code', rfl, hown3, hYI, hb3⟩
  obtain ⟨e1, e2⟩ := rootIs_uniq hZI.out hYI.out
  subst e1 e2
  have hZ7 := rootIs_len hZI.out
  obtain ⟨A3, c3, rfl, _, _, hY3, _⟩ := Rd.of_own hown3
  have hB3 := bthen hB2 hb3
  have hR3 := hR2.later hb3
  have hP3 := hP.later hB3
  have hZ3 := hZ2.later hb3
  clear hown3 hb3 hR2 hP2 hZ2 hB2 hZI hYI
  go_wp2_with fail
  refine (order_any _ P _ w3 hl hR3.rd).mono ?_
  rintro e w4 ⟨v4, X, cod, rfl, hown4, hXI, hb4⟩
  obtain ⟨A4, c4, rfl, _, _, hX4, _⟩ := Rd.of_own hown4
  have hB4 := bthen hB3 hb4
  have hR4 := hR3.later hb4
  have hP4 := hP.later hB4
  have hZ4 := hZ3.later hb4
  have hY4 := hY3.later hb4
  clear hown4 hb4 hR3 hP3 hZ3 hY3 hB3
  go_wp2_with fail
  refine (r16order_any A P c w4 hl hP4).mono ?_
  rintro e w5 ⟨v5, X', cod', rfl, hown5, hXI', hb5⟩
  obtain ⟨e1, e2⟩ := orderIs_uniq hXI.out hXI'.out
  subst e1 e2
  have hX7 := orderIs_len hXI.out
  obtain ⟨A5, c5, rfl, _, _, hX5, _⟩ := Rd.of_own hown5
  have hB5 := bthen hB4 hb5
  have hR5 := hR4.later hb5
  have hZ5 := hZ4.later hb5
  have hY5 := hY4.later hb5
  have hW5 := hX4.later hb5
  clear hown5 hb5 hR4 hP4 hZ4 hY4 hX4 hB4 hXI hXI'
  go_wp2_with fail
  refine (awake16_any w5).mono ?_
  rintro e w6 ⟨rfl, hb6⟩
  have hB6 := bthen hB5 hb6
  have HS1 : Hid (Calls Try.prog 35 #[.slice A2 Z.length c2, .slice A3 Z.length c3] w6 fun e w' => e = .returned (.bool true) ∧ ∃ n, w' = w6.drewN n) := Lib.hid (by
    have := sameInts_any A2 A3 Z Z c2 c3 w6 (by omega) (by omega) (hZ5.later hb6) (hY5.later hb6)
    rw [beq_self_eq_true] at this
    exact this)
  have HS2 : Hid (∀ n, Calls Try.prog 35 #[.slice A4 X.length c4, .slice A5 X.length c5] (w6.drewN n) fun e w' => e = .returned (.bool true) ∧ ∃ n, w' = w6.drewN n) := Lib.hid fun n => (by
    have := sameInts_any A4 A5 (X.map Int.ofNat) (X.map Int.ofNat) c4 c5 (w6.drewN n) (by simp; omega) (by simp; omega) (hW5.later (below_drewN hb6 n)) (hX5.later (below_drewN hb6 n))
    rw [beq_self_eq_true, List.length_map] at this
    exact this.mono fun e w' ⟨he, m, hm⟩ => ⟨he, n + m, by rw [hm]; simp [World.drewN_drewN]⟩)
  have HS3 : Hid (∀ n, Calls Try.prog 35 #[.slice (some ⟨g, 0, none⟩) P.length P.length, .slice A P.length c] (w6.drewN n) fun e w' => e = .returned (.bool true) ∧ ∃ n, w' = w6.drewN n) := Lib.hid fun n => (by
    have := sameInts_any (some ⟨g, 0, none⟩) A P P P.length c (w6.drewN n) hl hl (hR5.later (below_drewN hb6 n)).rd (hP.later (below_drewN hB6 n))
    rw [beq_self_eq_true] at this
    exact this.mono fun e w' ⟨he, m, hm⟩ => ⟨he, n + m, by rw [hm]; simp [World.drewN_drewN]⟩)
  go_wp2_with fail
  refine HS1.out.mono ?_
  rintro e w7 ⟨rfl, n, rfl⟩
  go_wp2_with fail
  refine (HS2.out n).mono ?_
  rintro e w7 ⟨rfl, n, rfl⟩
  go_wp2_with fail
  refine (HS3.out n).mono ?_
  rintro e w7 ⟨rfl, n, rfl⟩
  go_wp2_with fail
  go_ret
  exact ⟨rfl, below_drewN hB6 n⟩
end Go.Proofs.Ytkenbmelhfhidaa
