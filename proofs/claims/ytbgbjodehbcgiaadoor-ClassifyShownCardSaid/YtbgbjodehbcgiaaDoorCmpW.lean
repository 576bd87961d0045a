/- The contracts of cmp.Compare and slices.Compare over numbers. -/
import Derived.Test.YtbgbjodehbcgiaaDoorBP
namespace Go.Proofs.YtbgbjodehbcgiaaDoor
open Go.RowKit

/-- What cmp.Compare answers over numbers. -/
def cmpZ (x y : Int) : Int := if x < y then -1 else if y < x then 1 else 0
set_option maxHeartbeats 1000000 in
theorem compare_any (x y : Int) (w : World) : Calls Tryd.prog 98 #[.int .i64 x, .int .i64 y] w fun e w' => e = .returned (.int .i64 (cmpZ x y)) ∧ w = w' := by
  go_enter Tryd.func98, Tryd.ntmps98
  go_wp2
  all_goals (go_ret; refine ⟨?_, rfl⟩; unfold cmpZ; (repeat' split) <;> first | rfl | (exfalso; omega))
set_option maxHeartbeats 4000000 in
set_option maxRecDepth 100000 in
theorem compareL_any (A A' : Option Addr) (Z Y : List Nat) (c c' : Nat) (w : World) (hlen : Z.length = Y.length) (hl : Z.length ≤ 35184372087808) (hZ : Rd w w.heap.size A (ns Z)) (hY : Rd w w.heap.size A' (ns Y)) :
    Calls Tryd.prog 51 #[.slice A Z.length c, .slice A' Y.length c'] w fun e w' => ∃ r : Int, e = .returned (.int .i64 r) ∧ Hid (decide (r < 0) = lexLt Z Y) ∧ ∃ n, w' = w.drewN n := by
  have HL := Lib.hid hlen
  obtain ⟨m, hm⟩ : ∃ m, Y.length = m := ⟨_, rfl⟩
  have HM := Lib.hid hm
  rw [hm] at hlen
  have hm9 : m ≤ 35184372087808 := by omega
  rw [hm, hlen]
  clear hlen hm
  have HCP := Lib.hid compare_any
  go_enter Tryd.func51, Tryd.ntmps51
  go_wp2_with fail
  go_loopw [11] (fun i wr => ∃ k : Nat, k ≤ m ∧ i = .int .i64 k ∧ Hid (Z.take k = Y.take k) ∧ w = wr) (fun i _ => m - (intOf i).toNat)
  case atStart => exact ⟨0, Nat.zero_le _, rfl, rfl, rfl⟩
  case round =>
    obtain ⟨k, hk, rfl, heq, rfl⟩ := hrel
    by_cases hlt : k < m
    · have hltZ : k < Z.length := by rw [HL.out, HM.out]; exact hlt
      have hltY : k < Y.length := by rw [HM.out]; exact hlt
      obtain ⟨ad, hA, _, hc⟩ := hZ.n_at hltZ
      obtain ⟨ad', hA', _, hc'⟩ := hY.n_at hltY
      subst hA
      subst hA'
      have hs := take_snoc Z k hltZ
      have hs' := take_snoc Y k hltY
      have hat : Z[k] ≠ Y[k] → lexLt Z Y = decide (Z[k] < Y[k]) := fun h => lexLt_from Z Y k hltZ hltY heq.out h
      generalize Z[k] = x at hc hs hat
      generalize Y[k] = y at hc' hs' hat
      have HS := Lib.hid hs
      have HS' := Lib.hid hs'
      have HA := Lib.hid hat
      clear hs hs' hat hltZ hltY
      have b1 : (0 : Int) ≤ k := by omega
      have b2 : (k : Int) < m := by omega
      by_cases hxy : x = y
      · have e1 : (cmpZ x y != 0) = false := by simp [cmpZ, hxy]
        have HX := Lib.hid hxy
        clear hxy
        go_wp2_with fail
        refine (HCP.out _ _ _).mono ?_
        rintro e w1 ⟨rfl, rfl⟩
        go_wp2_with fail
        go_roundw
        case measure => simp [intOf]; omega
        case rel => exact ⟨k + 1, by omega, by go_num, by show _ = _; rw [HS.out, HS'.out, heq.out, HX.out], by first | rfl | trivial⟩
      · have e1 : (cmpZ x y != 0) = true := by
          unfold cmpZ
          split
          · rfl
          · split
            · rfl
            · omega
        have HR : Hid (decide (cmpZ x y < 0) = lexLt Z Y) := Lib.hid (by
          rw [HA.out hxy]
          unfold cmpZ
          split
          · simp; omega
          · split
            · simp; omega
            · omega)
        clear hxy
        go_wp2_with fail
        refine (HCP.out _ _ _).mono ?_
        rintro e w1 ⟨rfl, rfl⟩
        go_wp2_with fail
        go_ret
        exact ⟨_, rfl, HR, 0, rfl⟩
    · have HE : Hid (decide ((0 : Int) < 0) = lexLt Z Y) := Lib.hid (by
        have := heq.out
        rw [List.take_of_length_le (by rw [HL.out, HM.out]; omega), List.take_of_length_le (by rw [HM.out]; omega)] at this
        rw [this, lexLt_irrefl]; rfl)
      go_wp2_with fail
      go_ret
      exact ⟨_, rfl, HE, 0, rfl⟩
end Go.Proofs.YtbgbjodehbcgiaaDoor
