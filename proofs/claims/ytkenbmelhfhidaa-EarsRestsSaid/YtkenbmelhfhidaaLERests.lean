/- The walk of osierlaw15.EarsRests. -/
import Derived.Test.YtkenbmelhfhidaaR15d
import Derived.Test.YtkenbmelhfhidaaJtW7
namespace Go.Proofs.Ytkenbmelhfhidaa
open Go.RowKit

/-- What the walk compares at its end. -/
theorem rests_ends {V : Int} {E Y : List (BitVec 32)} {code : Int} (h : RestIs V E 0#32 Y code) : (codeB V E == code) = true ∧ (acyB V E == ((code == 0) && ((Y.length : Int) == 0))) = true := by
  obtain ⟨h1, h2⟩ := rest_acy h
  exact ⟨by rw [h1]; simp, by rw [h2]; simp⟩

set_option maxHeartbeats 4000000 in
set_option maxRecDepth 100000 in
theorem law_erests (V : Int) (A : Option Addr) (E : List (BitVec 32)) (c : Nat) (keep : BitVec 32) (w : World) (hl : E.length ≤ 35184372087808) (hE : Rd w w.heap.size A (us E)) :
    Calls Try.prog 12 #[.agg #[.int .i64 V, .slice A E.length c], .int .u32 (uz keep)] w fun e w' => e = .returned (.bool true) ∧ Below w.heap.size w w' := by
  go_enter Try.func12, Try.ntmps12
  go_wp2_with fail
  have hb0 := below_alloc w (.cells #[.int .i64 V, .slice A E.length c] 24)
  have hG0 : Row (w.alloc (.cells #[.int .i64 V, .slice A E.length c] 24)) w.heap.size 24 [.int .i64 V, .slice A E.length c] := Row.new _ _ _
  generalize w.alloc _ = w0 at hb0 hG0 ⊢
  refine (copy_any V A E c _ hl (hE.later hb0)).mono ?_
  rintro e w1 ⟨g, rfl, hg, hRg, hb1⟩
  have hB1 := bthen hb0 hb1
  have hG1 := hG0.later hb1
  go_wp2_with fail
  refine (rest_any V _ E _ keep w1 hl hRg.rd).mono ?_
  rintro e w2 ⟨v, Z, code, rfl, hown, hRI, hb2⟩
  have hB2 := bthen hB1 hb2
  have hG2 := hG1.later hb2
  have hE2 := hE.later hB2
  have d0 : w2.cell? ⟨w.heap.size, 0, none⟩ = some (.int .i64 V) := hG2.cell 0
  have d1 : w2.cell? ⟨w.heap.size, 1, none⟩ = some (.slice A E.length c) := hG2.cell 1
  obtain ⟨A', c', rfl, _, _, hZ, _⟩ := Rd.of_own hown
  clear hE hb0 hG0 hg hRg hb1 hB1 hG1 hb2 hown
  go_wp2_with fail
  refine (r15rest_any V A E c keep w2 hl hE2).mono ?_
  rintro e w3 ⟨v', Y, code', rfl, hown', hRI', hb3⟩
  obtain ⟨e1, e2⟩ := restIs_uniq hRI.out hRI'.out
  subst e1 e2
  have hZ7 := restIs_len hRI.out
  obtain ⟨A2, c2, rfl, _, _, hY, _⟩ := Rd.of_own hown'
  have hB3 := bthen hB2 hb3
  have hG3 := hG2.later hb3
  have hE3 := hE2.later hb3
  have hZ3 := hZ.later hb3
  clear hRI hRI' hown' hb3 hZ hB2 hE2 hG2 d0 d1
  have d0 : w3.cell? ⟨w.heap.size, 0, none⟩ = some (.int .i64 V) := hG3.cell 0
  have d1 : w3.cell? ⟨w.heap.size, 1, none⟩ = some (.slice A E.length c) := hG3.cell 1
  go_wp2_with fail
  refine (copy_any V A E c w3 hl hE3).mono ?_
  rintro e w4 ⟨g4, rfl, hg4, hRg4, hb4⟩
  have hB4 := bthen hB3 hb4
  have hG4 := hG3.later hb4
  have hE4 := hE3.later hb4
  clear d0 d1 hB3 hG3 hE3
  go_wp2_with fail
  refine (acyclic_any V _ E _ w4 hl hRg4.rd).mono ?_
  rintro e w5 ⟨rfl, hb5⟩
  have hB5 := bthen hB4 hb5
  have hG5 := hG4.later hb5
  have hE5 := hE4.later hb5
  have d0 : w5.cell? ⟨w.heap.size, 0, none⟩ = some (.int .i64 V) := hG5.cell 0
  have d1 : w5.cell? ⟨w.heap.size, 1, none⟩ = some (.slice A E.length c) := hG5.cell 1
  have hrest := r15rest_any V A E c 0#32 w5 hl hE5
  rw [show uz 0#32 = 0 from rfl] at hrest
  have HREST := Lib.hid hrest
  have HENDS := Lib.hid (fun Y code h => rests_ends (V := V) (E := E) (Y := Y) (code := code) h)
  have hZ5 := hZ3.later (bthen hb4 hb5)
  have hY5 := hY.later (bthen hb4 hb5)
  generalize acyB V E = ab at HENDS ⊢
  generalize codeB V E = cb at HENDS ⊢
  clear hrest hB4 hG4 hE4 hRg4 hg4 hb4 hb5 hZ3 hY
  go_wp2_with fail
  refine HREST.out.mono ?_
  rintro e w6 ⟨v6, U, code6, rfl, hown6, hR6, hb6⟩
  obtain ⟨n1, n2⟩ := HENDS.out U code6 hR6.out
  obtain ⟨A6, c6, rfl, _, _, _, _⟩ := Rd.of_own hown6
  have hB6 := bthen hB5 hb6
  have hZ6 := hZ5.later hb6
  have hY6 := hY5.later hb6
  clear HREST HENDS hown6 hR6 hb6 hB5 hG5 hE5 d0 d1 hZ5 hY5
  obtain ⟨q, hq⟩ : ∃ q, (code6 == 0) = q := ⟨_, rfl⟩
  obtain ⟨u, hu⟩ : ∃ u, ((U.length : Int) == 0) = u := ⟨_, rfl⟩
  rw [hq, hu] at n2
  go_wp2_with fail
  refine (awake15_any w6).mono ?_
  rintro e w7 ⟨rfl, hb7⟩
  have hB7 := bthen hB6 hb7
  have HS : Hid (Calls Try.prog 44 #[.slice A' Z.length c', .slice A2 Z.length c2] w7 fun e w' => e = .returned (.bool true) ∧ ∃ n, w' = w7.drewN n) := Lib.hid (by
    have := sameSets_any A' A2 Z Z c' c2 w7 (by omega) (by omega) (hZ6.later hb7) (hY6.later hb7)
    rw [beq_self_eq_true] at this
    exact this)
  clear hZ6 hY6 hb7 hB6
  go_wp2_with fail
  refine HS.out.mono ?_
  rintro e w8 ⟨rfl, n, rfl⟩
  cases q
  all_goals
    cases u
    all_goals
      simp only [Bool.and_true, Bool.and_false, Bool.and_self] at n2
      go_wp2_with fail
      go_ret
      exact ⟨rfl, below_drewN hB7 n⟩
end Go.Proofs.Ytkenbmelhfhidaa
