/- The contract of math/bits.OnesCount32. -/
import Derived.Test.YtkenbmelhfhidaaPathFree
import Derived.Lib.BitFns
import Derived.Lib.Strings
import Derived.Deep.RegionHeld3
namespace Go.Proofs.Ytkenbmelhfhidaa
open Go.RowKit
attribute [local go_sem ↓] uz_and uz_or uz_andNot uz_and_one uz_shr uz_shl_one uz_shl uz_sub uz_sub_one uz_add uz_beq_zero uz_bne_zero uz_beq uz_bne uz_beq_one

theorem uz_and_255 (x : BitVec 32) : Op.intBits .and .u32 (uz x) 255 = pure (.int .u32 (uz (x &&& 255#32))) := uz_and x 255#32
attribute [local go_sem ↓] uz_and_255
theorem cntB_add (p : Nat → Bool) (m : Nat) : ∀ n, cntB p (m + n) = cntB p m + cntB (fun i => p (m + i)) n
  | 0 => by simp [cntB]
  | n + 1 => by
    have e1 : cntB p (m + (n + 1)) = cntB p (m + n) + if p (m + n) then 1 else 0 := rfl
    have e2 : cntB (fun i => p (m + i)) (n + 1) = cntB (fun i => p (m + i)) n + if p (m + n) then 1 else 0 := rfl
    rw [e1, e2, cntB_add p m n, Nat.add_assoc]
theorem pop_byte : ∀ b : Fin 256, Lib.pop8 (b.val : Int) = (cntB (fun i => b.val.testBit i) 8 : Nat) := by decide +kernel
theorem mask_bit : ∀ i, i < 8 → (255#32).getLsbD i = true := by decide
theorem pop_nat {z : BitVec 32} (h : z.toNat < 256) : Lib.pop8 (uz z) = (cntB (fun i => z.getLsbD i) 8 : Nat) := pop_byte ⟨z.toNat, h⟩
theorem pop_mask (z : BitVec 32) : Lib.pop8 (uz (z &&& 255#32)) = (cntB (fun i => z.getLsbD i) 8 : Nat) := by
  rw [pop_nat (by rw [BitVec.toNat_and]; exact Nat.lt_of_le_of_lt Nat.and_le_right (by decide))]
  rw [cntB_congr fun i hi => ?_]
  rw [BitVec.getLsbD_and, mask_bit i hi, Bool.and_true]
theorem size_four (x : BitVec 32) : (sizeW x : Int) = Lib.pop8 (uz (x >>> 24)) + Lib.pop8 (uz (x >>> 16 &&& 255#32)) + Lib.pop8 (uz (x >>> 8 &&& 255#32)) + Lib.pop8 (uz (x &&& 255#32)) := by
  rw [pop_mask, pop_mask, pop_mask, pop_nat (by rw [BitVec.toNat_ushiftRight, Nat.shiftRight_eq_div_pow]; have := x.isLt; omega)]
  unfold sizeW
  have e0 : cntB (fun v => x.getLsbD v) 32 = cntB (fun v => x.getLsbD v) (8 + (8 + (8 + 8))) := rfl
  rw [e0, cntB_add, cntB_add, cntB_add]
  have e1 : ∀ k, (fun i => (x >>> k).getLsbD i) = fun i => x.getLsbD (k + i) := fun k => by funext i; rw [BitVec.getLsbD_ushiftRight]
  rw [e1, e1, e1]
  have e2 : (fun i => x.getLsbD (8 + (8 + i))) = fun i => x.getLsbD (16 + i) := by funext i; rw [show 8 + (8 + i) = 16 + i by omega]
  have e3 : (fun i => x.getLsbD (8 + (8 + (8 + i)))) = fun i => x.getLsbD (24 + i) := by funext i; rw [show 8 + (8 + (8 + i)) = 24 + i by omega]
  rw [e2, e3]
  omega
theorem pop_le (z : BitVec 32) (h : z.toNat < 256) : 0 ≤ Lib.pop8 (uz z) ∧ Lib.pop8 (uz z) ≤ 8 := by
  rw [pop_nat h]
  have := cntB_le (fun i => z.getLsbD i) 8
  omega

set_option maxHeartbeats 4000000 in
set_option maxRecDepth 100000 in
theorem ones32_any (x : BitVec 32) (w : World) : Calls Try.prog 107 #[.int .u32 (uz x)] w fun e w' => e = .returned (.int .i64 (sizeW x : Nat)) ∧ ∃ n, w' = w.drewN n := by
  have h1 : (x >>> 24).toNat < 256 := by rw [BitVec.toNat_ushiftRight, Nat.shiftRight_eq_div_pow]; have := x.isLt; omega
  have h2 : (x >>> 16 &&& 255#32).toNat < 256 := by rw [BitVec.toNat_and]; exact Nat.lt_of_le_of_lt Nat.and_le_right (by decide)
  have h3 : (x >>> 8 &&& 255#32).toNat < 256 := by rw [BitVec.toNat_and]; exact Nat.lt_of_le_of_lt Nat.and_le_right (by decide)
  have h4 : (x &&& 255#32).toNat < 256 := by rw [BitVec.toNat_and]; exact Nat.lt_of_le_of_lt Nat.and_le_right (by decide)
  have HS := Lib.hid (size_four x)
  obtain ⟨a1, b1⟩ := pop_le _ h1
  obtain ⟨a2, b2⟩ := pop_le _ h2
  obtain ⟨a3, b3⟩ := pop_le _ h3
  obtain ⟨a4, b4⟩ := pop_le _ h4
  have l1 := uz_lo (x >>> 24)
  have l2 := uz_lo (x >>> 16 &&& 255#32)
  have l3 := uz_lo (x >>> 8 &&& 255#32)
  have l4 := uz_lo (x &&& 255#32)
  have u1 : uz (x >>> 24) ≤ 255 := by unfold uz; omega
  have u2 : uz (x >>> 16 &&& 255#32) ≤ 255 := by unfold uz; omega
  have u3 : uz (x >>> 8 &&& 255#32) ≤ 255 := by unfold uz; omega
  have u4 : uz (x &&& 255#32) ≤ 255 := by unfold uz; omega
  clear h1 h2 h3 h4
  go_enter Try.func107, Try.ntmps107
  go_wp2_with fail
  go_quiet (fail)
  go_wp2_with fail
  go_ret
  exact ⟨by rw [HS.out]; rfl, nq, rfl⟩
end Go.Proofs.Ytkenbmelhfhidaa
