/- The walk of osierlaw15.EarsRuns. -/
import Derived.Test.YtkenbmelhfhidaaR15d
import Derived.Test.YtkenbmelhfhidaaSameL
import Derived.Test.YtkenbmelhfhidaaCuts
import Derived.StillTailTactics
namespace Go.Proofs.Ytkenbmelhfhidaa
open Go.RowKit

theorem runIs_steps {V : Int} {E : List (BitVec 32)} {keep : BitVec 32} {ss : List Stp} {L : Lt} {code : Int} (h : RunIs V E keep ss L code) : ss.length ≤ 232 := by
  rcases h with ⟨_, h, _, _⟩ | ⟨_, h, _, _⟩
  · rw [h]; exact Nat.zero_le _
  · rw [h]; exact runN_len _ _ _

set_option maxHeartbeats 4000000 in
set_option maxRecDepth 100000 in
theorem law_eruns (V : Int) (A : Option Addr) (E : List (BitVec 32)) (c : Nat) (keep : BitVec 32) (w : World) (hl : E.length ≤ 35184372087808) (hE : Rd w w.heap.size A (us E)) :
    Calls Try.prog 11 #[.agg #[.int .i64 V, .slice A E.length c], .int .u32 (uz keep)] w fun e w' => e = .returned (.bool true) ∧ Below w.heap.size w w' := by
  go_enter Try.func11, Try.ntmps11
  go_wp2_with fail
  have hb0 := below_alloc w (.cells #[.int .i64 V, .slice A E.length c] 24)
  have hG0 : Row (w.alloc (.cells #[.int .i64 V, .slice A E.length c] 24)) w.heap.size 24 [.int .i64 V, .slice A E.length c] := Row.new _ _ _
  generalize w.alloc _ = w0 at hb0 hG0 ⊢
  refine (copy_any V A E c _ hl (hE.later hb0)).mono ?_
  rintro e w1 ⟨g, rfl, hg, hRg, hb1⟩
  have hB1 := bthen hb0 hb1
  have hG1 := hG0.later hb1
  go_upto_region 2 with fail
  have hb2 := below_alloc w1 (.cells #[.int .i64 V, .slice (some ⟨g, 0, none⟩) E.length E.length] 24)
  have hI2 : Row (w1.alloc (.cells #[.int .i64 V, .slice (some ⟨g, 0, none⟩) E.length E.length] 24)) w1.heap.size 24 [.int .i64 V, .slice (some ⟨g, 0, none⟩) E.length E.length] := Row.new _ _ _
  have hB2 := bthen hB1 hb2
  have hG2 := hG1.later hb2
  have hRg2 := hRg.later hb2
  have hE2 := hE.later hB2
  generalize w1.heap.size = q at hI2 ⊢
  generalize w1.alloc _ = w2 at hI2 hB2 hG2 hRg2 hE2 ⊢
  have d0 : w2.cell? ⟨q, 0, none⟩ = some (.int .i64 V) := hI2.cell 0
  have d1 : w2.cell? ⟨q, 1, none⟩ = some (.slice (some ⟨g, 0, none⟩) E.length E.length) := hI2.cell 1
  clear hb2 hG1 hB1 hb1 hRg hg hG0 hb0 hE
  go_wp2_with fail
  refine (run_any V _ E _ keep w2 hl hRg2.rd).mono ?_
  rintro e w3 ⟨v1, v2, ss, L, code, rfl, hown1, hown2, hR, hb3⟩
  obtain ⟨A1, c1, rfl, _, _, hS, _⟩ := Rd.of_ownS hown1
  obtain ⟨A2, c2, rfl, _, _, hL, _⟩ := Rd.of_ownS hown2
  have hB3 := bthen hB2 hb3
  have hG3 := hG2.later hb3
  have hI3 := hI2.later hb3
  have hRg3 := hRg2.later hb3
  have hE3 := hE2.later hb3
  have e0 : w3.cell? ⟨w.heap.size, 0, none⟩ = some (.int .i64 V) := hG3.cell 0
  have e1 : w3.cell? ⟨w.heap.size, 1, none⟩ = some (.slice A E.length c) := hG3.cell 1
  clear d0 d1 hown1 hown2 hB2 hG2 hI2 hRg2 hE2 hb3
  go_wp2_with fail
  refine (r15run_any V A E c keep w3 hl hE3).mono ?_
  rintro e w4 ⟨u1, u2, tt, M, code', rfl, hown1, hown2, hR', hb4⟩
  obtain ⟨h1, h2, h3⟩ := runIs_uniq hR.out hR'.out
  subst h1 h2 h3
  have hs232 := runIs_steps hR.out
  have hL7 := runIs_len hR.out
  obtain ⟨A3, c3, rfl, _, _, hT, _⟩ := Rd.of_ownS hown1
  obtain ⟨A4, c4, rfl, _, _, hM, _⟩ := Rd.of_ownS hown2
  have hB4 := bthen hB3 hb4
  have hG4 := hG3.later hb4
  have hI4 := hI3.later hb4
  have hRg4 := hRg3.later hb4
  have hE4 := hE3.later hb4
  have hS4 := hS.later hb4
  have hL4 := hL.later hb4
  clear e0 e1 hown1 hown2 hB3 hG3 hI3 hRg3 hE3 hb4 hS hL hR hR'
  go_wp2_with fail
  refine (sameLeft_any A2 A4 L c2 c4 w4 hL7 hL4 hM).mono ?_
  rintro e w5 ⟨rfl, n5, rfl⟩
  have d0 : (w4.drewN n5).cell? ⟨q, 0, none⟩ = some (.int .i64 V) := hI4.cell 0
  have d1 : (w4.drewN n5).cell? ⟨q, 1, none⟩ = some (.slice (some ⟨g, 0, none⟩) E.length E.length) := hI4.cell 1
  have e0 : (w4.drewN n5).cell? ⟨w.heap.size, 0, none⟩ = some (.int .i64 V) := hG4.cell 0
  have e1 : (w4.drewN n5).cell? ⟨w.heap.size, 1, none⟩ = some (.slice A E.length c) := hG4.cell 1
  have HSM : Hid (Calls Try.prog 34 #[.agg #[.int .i64 V, .slice (some ⟨g, 0, none⟩) E.length E.length], .agg #[.int .i64 V, .slice A E.length c]] (w4.drewN n5) fun e w' => e = .returned (.bool true) ∧ Below (w4.drewN n5).heap.size (w4.drewN n5) w') := Lib.hid (by
    have := same_any V V (some ⟨g, 0, none⟩) A E E E.length c (w4.drewN n5) hl hl hRg4.rd hE4
    rw [show sameG V V E E = true by simp [sameG]] at this
    exact this)
  have hB5 := below_drewN hB4 n5
  have hS5 : Rd (w4.drewN n5) (w4.drewN n5).heap.size A1 (sts ss) := hS4
  have hT5 : Rd (w4.drewN n5) (w4.drewN n5).heap.size A3 (sts ss) := hT
  generalize w4.drewN n5 = w5 at d0 d1 e0 e1 HSM hB5 hS5 hT5 ⊢
  clear hB4 hG4 hI4 hRg4 hE4 hS4 hL4 hT hM
  go_wp2_with fail
  refine HSM.out.mono ?_
  rintro e w6 ⟨rfl, hb6⟩
  have hB6 := bthen hB5 hb6
  have hS6 := hS5.later hb6
  have hT6 := hT5.later hb6
  clear HSM d0 d1 e0 e1 hB5 hS5 hT5 hb6
  go_wp2_with fail
  go_loopw [53] (fun i wr => ∃ k : Nat, k ≤ ss.length ∧ i = .int .i64 k ∧ Below w6.heap.size w6 wr) (fun i _ => ss.length - (intOf i).toNat)
  case atStart => exact ⟨0, Nat.zero_le _, rfl, Below.refl _ _⟩
  case round =>
    obtain ⟨k, hk, rfl, hb⟩ := hrel
    by_cases hlt : k < ss.length
    · obtain ⟨ad, hA, _, q0, q1, q2, q3⟩ := (hS6.later hb).st_cells hlt
      obtain ⟨ad', hA', _, p0, p1, p2, p3⟩ := (hT6.later hb).st_cells hlt
      subst hA
      subst hA'
      have b1 : (0 : Int) ≤ k := by omega
      have b2 : (k : Int) < ss.length := by omega
      generalize stp ss k = s at q0 q1 q2 q3 p0 p1 p2 p3
      go_upto_region 9 with fail
      go_still_tail 8, (by kernel_rfl)
      change wpList _ _ _ _ _ (World.drew wr)
      have hb7 : Below w6.heap.size w6 (World.drew wr) := below_drewN hb 1
      clear q0 q1 q2 q3 p0 p1 p2 p3
      generalize World.drew wr = w7 at hb7 ⊢
      go_wp2_with fail
      refine (same15_any s w7).mono ?_
      rintro e w8 ⟨rfl, hb8⟩
      go_wp2_with fail
      go_roundw
      case rel => exact ⟨k + 1, by omega, by go_num, bthen hb7 hb8⟩
      case measure => simp [intOf]; omega
    · have hBr := bthen hB6 hb
      go_wp2_with fail
      refine (awake15_any _).mono ?_
      rintro e w9 ⟨rfl, hb9⟩
      go_wp2_with fail
      go_ret
      exact ⟨rfl, bthen hBr hb9⟩
end Go.Proofs.Ytkenbmelhfhidaa
