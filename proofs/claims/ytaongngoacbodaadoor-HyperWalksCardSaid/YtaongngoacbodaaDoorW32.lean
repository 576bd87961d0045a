/- Words of 32 bits as BitVec 32, kept behind a name that the walk does not open; the laws by which the walk reckons with them. Plain: no program in sight. -/
import Derived.WalkKit
import Derived.WalkSpells
import Derived.WalkLawsBesides
namespace Go.Proofs.YtaongngoacbodaaDoor
open Go.RowKit

/-- The number that a word of 32 bits is. -/
def uz (x : BitVec 32) : Int := (x.toNat : Int)
theorem uz_def (x : BitVec 32) : uz x = (x.toNat : Int) := rfl
theorem uz_lo (x : BitVec 32) : 0 ≤ uz x := by unfold uz; omega
theorem uz_hi (x : BitVec 32) : uz x < 4294967296 := by unfold uz; have := x.isLt; omega
theorem uz_inj {x y : BitVec 32} (h : uz x = uz y) : x = y := by
  unfold uz at h; exact BitVec.eq_of_toNat_eq (by omega)
theorem uz_beq (x y : BitVec 32) : (uz x == uz y) = (x == y) := by
  rw [Bool.eq_iff_iff, beq_iff_eq, beq_iff_eq]
  exact ⟨uz_inj, fun h => by rw [h]⟩
theorem uz_bne (x y : BitVec 32) : (uz x != uz y) = (x != y) := by
  simp only [bne, uz_beq]
theorem uz_zero : uz 0#32 = 0 := rfl
theorem uz_one : uz 1#32 = 1 := rfl
theorem uz_beq_zero (x : BitVec 32) : (uz x == 0) = (x == 0#32) := uz_beq x 0#32
theorem uz_bne_zero (x : BitVec 32) : (uz x != 0) = (x != 0#32) := uz_bne x 0#32
theorem uz_beq_one (x : BitVec 32) : (uz x == 1) = (x == 1#32) := uz_beq x 1#32
theorem uz_lt (x y : BitVec 32) : (uz x < uz y) = (x < y) := by
  unfold uz; rw [BitVec.lt_def]; exact propext (by omega)

theorem uz_of (n : Int) (h : 0 ≤ n) (h' : n < 4294967296) : uz (BitVec.ofInt 32 n) = n := by
  obtain ⟨m, rfl⟩ := Int.eq_ofNat_of_zero_le h
  unfold uz
  rw [ofInt_u32 m (by omega)]

theorem uz_and (x y : BitVec 32) : Op.intBits .and .u32 (uz x) (uz y) = pure (.int .u32 (uz (x &&& y))) := by
  rw [intBits_and]; unfold uz; rw [u32_and_nat _ _ x.isLt y.isLt, BitVec.toNat_and]
theorem uz_or (x y : BitVec 32) : Op.intBits .or .u32 (uz x) (uz y) = pure (.int .u32 (uz (x ||| y))) := by
  rw [intBits_or]; unfold uz; rw [u32_or_nat _ _ x.isLt y.isLt, BitVec.toNat_or]
theorem uz_andNot (x y : BitVec 32) : Op.intBits .andNot .u32 (uz x) (uz y) = pure (.int .u32 (uz (x &&& ~~~y))) := by
  rw [intBits_andNot]; unfold uz; rw [u32_andNot_nat _ _ x.isLt y.isLt, BitVec.toNat_and, BitVec.toNat_not]
theorem uz_and_one (x : BitVec 32) : Op.intBits .and .u32 (uz x) 1 = pure (.int .u32 (uz (x &&& 1#32))) := uz_and x 1#32
theorem uz_shr (x : BitVec 32) (k : IntKind) (y : Int) (h : 0 ≤ y) : Op.shift .shr .u32 (uz x) k y = pure (.int .u32 (uz (x >>> y.toNat))) := by
  unfold Op.shift
  rw [if_neg (by omega)]
  simp only [IntKind.bits]
  congr 2
  unfold uz
  rw [BitVec.toNat_ushiftRight, Nat.shiftRight_eq_div_pow]
  rw [show ((2 : Int) ^ min y.toNat 32) = (((2 : Nat) ^ min y.toNat 32 : Nat) : Int) by norm_cast, Int.fdiv_eq_ediv_of_nonneg _ (Int.natCast_nonneg _)]
  rw [← Int.natCast_ediv]
  congr 1
  rcases Nat.le_total y.toNat 32 with hh | hh
  · rw [Nat.min_eq_left hh]
  · rw [Nat.min_eq_right hh, Nat.div_eq_of_lt (by simpa using x.isLt), Nat.div_eq_of_lt]
    exact Nat.lt_of_lt_of_le x.isLt (Nat.pow_le_pow_right (by omega) hh)
theorem uz_shl_one (k : IntKind) (y : Int) (h : 0 ≤ y) : Op.shift .shl .u32 1 k y = pure (.int .u32 (uz (1#32 <<< y.toNat))) := by
  unfold Op.shift
  rw [if_neg (by omega)]
  simp only [IntKind.bits]
  congr 2
  unfold uz
  rw [BitVec.toNat_shiftLeft, Nat.shiftLeft_eq, IntKind.wrap_u32]
  rw [show ((2 : Int) ^ min y.toNat 32) = (((2 : Nat) ^ min y.toNat 32 : Nat) : Int) by norm_cast]
  rcases Nat.le_total y.toNat 32 with hh | hh
  · rw [Nat.min_eq_left hh]; simp
  · rw [Nat.min_eq_right hh]
    obtain ⟨d, hd⟩ := Nat.exists_eq_add_of_le hh
    rw [hd, Nat.pow_add]
    simp [Nat.mul_mod_right]
theorem uz_shl (x : BitVec 32) (k : IntKind) (y : Int) (h : 0 ≤ y) : Op.shift .shl .u32 (uz x) k y = pure (.int .u32 (uz (x <<< y.toNat))) := by
  unfold Op.shift
  rw [if_neg (by omega)]
  simp only [IntKind.bits]
  congr 2
  unfold uz
  rw [BitVec.toNat_shiftLeft, Nat.shiftLeft_eq, IntKind.wrap_u32]
  rw [show ((2 : Int) ^ min y.toNat 32) = (((2 : Nat) ^ min y.toNat 32 : Nat) : Int) by norm_cast]
  rcases Nat.le_total y.toNat 32 with hh | hh
  · rw [Nat.min_eq_left hh, ← Int.natCast_mul]
    generalize x.toNat * 2 ^ y.toNat = m
    omega
  · rw [Nat.min_eq_right hh]
    obtain ⟨d, hd⟩ := Nat.exists_eq_add_of_le hh
    rw [hd, Nat.pow_add]
    have e1 : (x.toNat * (2 ^ 32 * 2 ^ d)) % 2 ^ 32 = 0 := by
      rw [show x.toNat * (2 ^ 32 * 2 ^ d) = 2 ^ 32 * (x.toNat * 2 ^ d) by rw [Nat.mul_left_comm]]; exact Nat.mul_mod_right _ _
    rw [e1]
    have e2 : ((x.toNat : Int) * ((2 ^ 32 : Nat) : Int)) % 4294967296 = 0 := by
      rw [show ((2 ^ 32 : Nat) : Int) = 4294967296 from rfl]; omega
    rw [e2]; rfl
theorem uz_sub (x y : BitVec 32) : IntKind.u32.wrap (uz x - uz y) = uz (x - y) := by
  rw [IntKind.wrap_u32]; unfold uz; rw [BitVec.toNat_sub]
  have := x.isLt; have := y.isLt; omega
theorem uz_sub_one (x : BitVec 32) : IntKind.u32.wrap (uz x - 1) = uz (x - 1#32) := uz_sub x 1#32
theorem uz_add (x y : BitVec 32) : IntKind.u32.wrap (uz x + uz y) = uz (x + y) := by
  rw [IntKind.wrap_u32]; unfold uz; rw [BitVec.toNat_add]
  have := x.isLt; have := y.isLt; omega
end Go.Proofs.YtaongngoacbodaaDoor
