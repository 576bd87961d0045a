/- The contracts of osierlaw15.same and sameLeft, at equals. -/
import Derived.Test.YtkenbmelhfhidaaR15c
namespace Go.Proofs.Ytkenbmelhfhidaa
open Go.RowKit

attribute [local go_sem ↓] uz_and uz_or uz_andNot uz_and_one uz_shr uz_shl_one uz_shl uz_sub uz_sub_one uz_add uz_beq_zero uz_bne_zero uz_beq uz_bne uz_beq_one

set_option maxRecDepth 100000 in
theorem same15_any (s : Stp) (w : World) :
    Calls Try.prog 52 #[.agg #[.int .i64 s.kind, .int .i64 s.edge, .int .i64 s.into, .int .u32 (uz s.cut)], .agg #[.int .i64 s.kind, .int .i64 s.edge, .int .i64 s.into, .int .u32 (uz s.cut)]] w fun e w' => e = .returned (.bool true) ∧ Below w.heap.size w w' := by
  obtain ⟨k, x, y, c⟩ := s
  simp only
  have e1 : (k == k) = true := by simp
  have e2 : (x == x) = true := by simp
  have e3 : (y == y) = true := by simp
  have e4 : (c == c) = true := by simp
  go_enter Try.func52, Try.ntmps52
  go_wp2_with fail
  go_ret
  exact ⟨rfl, (below_alloc w _).alloc (by simp) _⟩

set_option maxHeartbeats 2000000 in
set_option maxRecDepth 100000 in
theorem sameLeft_any (A A' : Option Addr) (L : Lt) (c c' : Nat) (w : World) (hl : L.length ≤ 7) (hL : Rd w w.heap.size A (lfs L)) (hL' : Rd w w.heap.size A' (lfs L)) :
    Calls Try.prog 51 #[.slice A L.length c, .slice A' L.length c'] w fun e w' => e = .returned (.bool true) ∧ ∃ n, w' = w.drewN n := by
  go_enter Try.func51, Try.ntmps51
  go_wp2_with fail
  go_loopw [13] (fun i wr => ∃ k : Nat, k ≤ L.length ∧ i = .int .i64 k ∧ ∃ n, wr = w.drewN n) (fun i _ => L.length - (intOf i).toNat)
  case atStart => exact ⟨0, Nat.zero_le _, rfl, 0, rfl⟩
  case round =>
    obtain ⟨k, hk, rfl, n, rfl⟩ := hrel
    by_cases hlt : k < L.length
    · obtain ⟨ad, hA, _, q0, q1⟩ := hL.lf_cells hlt
      obtain ⟨ad', hA', _, p0, p1⟩ := hL'.lf_cells hlt
      subst hA
      subst hA'
      generalize lft L k = x at q0 q1 p0 p1
      obtain ⟨i, x⟩ := x
      simp only at q0 q1 p0 p1
      have b1 : (0 : Int) ≤ k := by omega
      have b2 : (k : Int) < L.length := by omega
      have e1 : ((i : Int) != (i : Int)) = false := by simp
      have e2 : (x != x) = false := by simp
      go_wp2_with fail
      go_quiet (fail)
      go_wp2_with fail
      go_roundw
      case rel => exact ⟨k + 1, by omega, by go_num, _, rfl⟩
      case measure => simp [intOf]; omega
    · go_wp2_with fail
      go_ret
      exact ⟨rfl, n, rfl⟩
end Go.Proofs.Ytkenbmelhfhidaa
