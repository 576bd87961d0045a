/- The contract of math/bits.TrailingZeros32 over its table. -/
import Derived.Test.YtaongngoacbodaaDoorGr3
namespace Go.Proofs.YtaongngoacbodaaDoor
open Go.RowKit

attribute [local go_sem ↓] uz_and uz_or uz_andNot uz_and_one uz_shr uz_shl_one uz_shl uz_sub uz_sub_one uz_add uz_beq_zero uz_bne_zero uz_beq uz_bne uz_beq_one

/-! ### TrailingZeros32 -/
/-- The table that it reads. -/
def Tab (w : World) : Prop := ∀ k, k < 32 → w.cell? ⟨0, k, none⟩ = some (.int .u8 (Lib.deBruijn32tab.getD k 0 : Nat))
theorem Tab.later {w w' : World} (h : Tab w) (hb : Below w.heap.size w w') : Tab w' := fun k hk => by
  have h0 := h k hk
  rw [hb.cell (p := ⟨0, k, none⟩) (World.block_lt_of_cell? w _ h0)]
  exact h0
theorem uz_neg (x : BitVec 32) : IntKind.u32.wrap (-uz x) = uz (-x) := by
  rw [IntKind.wrap_u32]; unfold uz; rw [BitVec.toNat_neg]
  have := x.isLt; omega
/-- The place in the table. -/
def tzAt (x : BitVec 32) : Nat := 2 ^ ctz x * 125613361 % 4294967296 / 134217728
theorem tzAt_eq (x : BitVec 32) (h0 : x ≠ 0#32) : uz (x &&& -x) * 125613361 % 4294967296 / 134217728 = ((tzAt x : Nat) : Int) := by
  have hx0 : x.toNat ≠ 0 := fun h => h0 (BitVec.eq_of_toNat_eq (by simpa using h))
  have h1 := (Lib.lowest_bit 32 x.toNat hx0 x.isLt).1
  unfold tzAt uz ctz
  rw [BitVec.toNat_and, BitVec.toNat_neg, Nat.mod_eq_of_lt (by have := x.isLt; omega), h1]
  generalize 2 ^ Lib.ctz 32 x.toNat = q
  omega
theorem tz_zero (w : World) : Calls Tryd.prog 38 #[.int .u32 (uz 0#32)] w fun e w' => e = .returned (.int .i64 32) ∧ w = w' := by
  go_enter Tryd.func38, Tryd.ntmps38
  go_wp2
  go_ret
  exact ⟨rfl, rfl⟩
theorem tz_walk (x : BitVec 32) (m k : Nat) (w : World) (hk : k < 32) (hn0 : (x == 0#32) = false) (hm : uz (x &&& -x) * 125613361 % 4294967296 / 134217728 = (m : Int)) (h3 : m < 32)
    (hc : w.cell? ⟨0, m, none⟩ = some (.int .u8 (k : Nat))) : Calls Tryd.prog 38 #[.int .u32 (uz x)] w fun e w' => e = .returned (.int .i64 k) ∧ w = w' := by
  have ha := uz_neg x
  go_enter Tryd.func38, Tryd.ntmps38
  go_wp2
  go_ret
  exact ⟨rfl, rfl⟩
theorem tz_any (x : BitVec 32) (w : World) (hT : Tab w) :
    Calls Tryd.prog 38 #[.int .u32 (uz x)] w fun e w' => e = .returned (.int .i64 (ctz x)) ∧ w = w' := by
  by_cases h0 : x = 0#32
  · subst h0
    have hz : ctz 0#32 = 32 := rfl
    rw [hz]
    exact tz_zero w
  · have h2 := ctz_lt x h0
    obtain ⟨h3, h4⟩ := Lib.deBruijn32_at _ h2
    have hc := hT _ h3
    rw [h4] at hc
    exact tz_walk x (tzAt x) (ctz x) w h2 (by simpa using h0) (tzAt_eq x h0) h3 hc
end Go.Proofs.YtaongngoacbodaaDoor
