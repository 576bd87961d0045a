/- Contracts of the functions on words alone: the reference's In, Within, Meet, Both. -/
import Derived.Test.YtaongngoacbodaaDoorProg
import Derived.Test.YtaongngoacbodaaDoorMem
import Derived.Lib.TrailingZeros
namespace Go.Proofs.YtaongngoacbodaaDoor
open Go.RowKit

attribute [local go_sem ↓] uz_and uz_or uz_andNot uz_and_one uz_shr uz_shl_one uz_shl uz_sub uz_sub_one uz_add uz_beq_zero uz_bne_zero uz_beq uz_bne uz_beq_one

/-! ### In -/
theorem in_any (s : BitVec 32) (v : Int) (w : World) :
    Calls Tryd.prog 19 #[.int .u32 (uz s), .int .i64 v] w fun e w' => e = .returned (.bool (inB s v)) ∧ w = w' := by
  by_cases h0 : 0 ≤ v
  · by_cases h1 : v < 32
    · obtain ⟨k, rfl⟩ := Int.eq_ofNat_of_zero_le h0
      have hk : k < 32 := by omega
      have hne := bit_ne k hk
      have hd := bit_div s k hk
      have hi := inB_nat s k
      go_enter Tryd.func19, Tryd.ntmps19
      go_wp2
      go_ret
      exact ⟨rfl, rfl⟩
    · have hi := inB_big s v (by omega)
      go_enter Tryd.func19, Tryd.ntmps19
      go_wp2
      go_ret
      exact ⟨rfl, rfl⟩
  · have hi := inB_neg s v (by omega)
    go_enter Tryd.func19, Tryd.ntmps19
    go_wp2
    go_ret
    exact ⟨rfl, rfl⟩

/-! ### Within, Meet, Both -/
theorem within_step (a b : BitVec 32) (k : Nat) (h : (a &&& ~~~b) &&& allOf k = 0#32) (hk : k < 32) (hb : inB a k = false ∨ inB b k = true) : (a &&& ~~~b) &&& allOf (k + 1 : Nat) = 0#32 := by
  simp only [inB_nat] at hb
  apply BitVec.eq_of_getLsbD_eq
  intro i hi
  have h' := congrArg (fun x => x.getLsbD i) h
  simp only [BitVec.getLsbD_and, BitVec.getLsbD_not, hi, decide_true, Bool.true_and, BitVec.getLsbD_zero, getLsbD_allOf (k : Int) (by omega), getLsbD_allOf ((k + 1 : Nat) : Int) (by omega), Int.toNat_natCast] at h' ⊢
  rcases Nat.lt_trichotomy i k with c | c | c
  · simpa [c, show i < k + 1 by omega] using h'
  · subst c; rcases hb with c | c <;> simp [c]
  · simp [show ¬ i < k + 1 by omega]
theorem and_all32 (x : BitVec 32) : x &&& allOf (32 : Nat) = x := by
  apply BitVec.eq_of_getLsbD_eq
  intro i hi
  rw [BitVec.getLsbD_and, getLsbD_allOf _ (by decide)]
  simp [hi]
theorem and_all0 (x : BitVec 32) : x &&& allOf (0 : Nat) = 0#32 := by
  apply BitVec.eq_of_getLsbD_eq
  intro i hi
  rw [BitVec.getLsbD_and, getLsbD_allOf _ (by decide)]
  simp
/-- Is a part of b? -/
def subB (a b : BitVec 32) : Bool := a &&& ~~~b == 0#32
/-- Have they a common vertex? -/
def meetB (a b : BitVec 32) : Bool := a &&& b != 0#32
theorem subB_false_of (a b : BitVec 32) (k : Nat) (h1 : inB a k = true) (h2 : inB b k = false) : subB a b = false := by
  simp only [inB_nat] at h1 h2
  unfold subB
  rw [beq_eq_false_iff_ne]
  intro h
  have h' := congrArg (fun x => x.getLsbD k) h
  have hk : k < 32 := by
    rcases Nat.lt_or_ge k 32 with c | c
    · exact c
    · rw [BitVec.getLsbD_of_ge _ _ c] at h1; cases h1
  simp only [BitVec.getLsbD_and, BitVec.getLsbD_not, hk, h1, h2, BitVec.getLsbD_zero] at h'
  simp at h'
theorem meetB_true_of (a b : BitVec 32) (k : Nat) (h1 : inB a k = true) (h2 : inB b k = true) : meetB a b = true := by
  simp only [inB_nat] at h1 h2
  unfold meetB
  rw [bne_iff_ne]
  intro h
  have h' := congrArg (fun x => x.getLsbD k) h
  simp only [BitVec.getLsbD_and, h1, h2, BitVec.getLsbD_zero] at h'
  simp at h'
theorem meet_step (a b : BitVec 32) (k : Nat) (h : (a &&& b) &&& allOf k = 0#32) (hk : k < 32) (hb : inB a k = false ∨ inB b k = false) : (a &&& b) &&& allOf (k + 1 : Nat) = 0#32 := by
  simp only [inB_nat] at hb
  apply BitVec.eq_of_getLsbD_eq
  intro i hi
  have h' := congrArg (fun x => x.getLsbD i) h
  simp only [BitVec.getLsbD_and, BitVec.getLsbD_zero, getLsbD_allOf (k : Int) (by omega), getLsbD_allOf ((k + 1 : Nat) : Int) (by omega), Int.toNat_natCast] at h' ⊢
  rcases Nat.lt_trichotomy i k with c | c | c
  · simpa [c, show i < k + 1 by omega] using h'
  · subst c; rcases hb with c | c <;> simp [c]
  · simp [show ¬ i < k + 1 by omega]

theorem lows_t (x : BitVec 32) (k : Nat) (h : inB x k = true) : lows x (k + 1) = lows x k + 1#32 <<< k := by
  rw [inB_nat] at h; show (if _ then _ else _) = _; rw [if_pos h]
theorem lows_f (x : BitVec 32) (k : Nat) (h : inB x k = false) : lows x (k + 1) = lows x k := by
  rw [inB_nat] at h; show (if _ then _ else _) = _; rw [if_neg (by simp [h])]
theorem inB_and (a b : BitVec 32) (v : Int) : inB (a &&& b) v = (inB a v && inB b v) := by
  simp only [inB, BitVec.getLsbD_and]; cases decide (0 ≤ v) <;> simp

theorem within_any (a b : BitVec 32) (w : World) :
    Calls Tryd.prog 21 #[.int .u32 (uz a), .int .u32 (uz b)] w fun e w' => e = .returned (.bool (subB a b)) ∧ w = w' := by
  go_enter Tryd.func21, Tryd.ntmps21
  go_wp2_with fail
  go_loop [5] (fun i => ∃ k : Nat, k ≤ 32 ∧ i = .int .i64 k ∧ Hid ((a &&& ~~~b) &&& allOf k = 0#32)) (fun i => 32 - (intOf i).toNat)
  case atStart => exact ⟨0, by omega, rfl, and_all0 _⟩
  case round =>
    obtain ⟨k, hk, rfl, hz⟩ := hrel
    by_cases hlt : k < 32
    · cases h1 : inB a k
      · go_wp2_with (go_at_call 19; refine (in_any _ _ _).mono ?_; rintro e w' ⟨rfl, rfl⟩)
        go_round
        case rel => exact ⟨k + 1, by omega, by go_num, within_step a b k hz.out hlt (.inl h1)⟩
        case measure => simp [intOf]; omega
      · cases h2 : inB b k
        · have hf := subB_false_of a b k h1 h2
          go_wp2_with (go_at_call 19; refine (in_any _ _ _).mono ?_; rintro e w' ⟨rfl, rfl⟩)
          go_ret
          exact ⟨by first | rfl | (rw [hf]; rfl), rfl⟩
        · go_wp2_with (go_at_call 19; refine (in_any _ _ _).mono ?_; rintro e w' ⟨rfl, rfl⟩)
          go_round
          case rel => exact ⟨k + 1, by omega, by go_num, within_step a b k hz.out hlt (.inr h2)⟩
          case measure => simp [intOf]; omega
    · have hk32 : k = 32 := by omega
      subst hk32
      have ht : subB a b = true := by have := hz.out; rw [and_all32] at this; simp [subB, this]
      go_wp2_with fail
      go_ret
      exact ⟨by first | rfl | (rw [ht]; rfl), rfl⟩
theorem meet_any (a b : BitVec 32) (w : World) :
    Calls Tryd.prog 24 #[.int .u32 (uz a), .int .u32 (uz b)] w fun e w' => e = .returned (.bool (meetB a b)) ∧ w = w' := by
  go_enter Tryd.func24, Tryd.ntmps24
  go_wp2_with fail
  go_loop [5] (fun i => ∃ k : Nat, k ≤ 32 ∧ i = .int .i64 k ∧ Hid ((a &&& b) &&& allOf k = 0#32)) (fun i => 32 - (intOf i).toNat)
  case atStart => exact ⟨0, by omega, rfl, and_all0 _⟩
  case round =>
    obtain ⟨k, hk, rfl, hz⟩ := hrel
    by_cases hlt : k < 32
    · cases h1 : inB a k
      · go_wp2_with (go_at_call 19; refine (in_any _ _ _).mono ?_; rintro e w' ⟨rfl, rfl⟩)
        go_round
        case rel => exact ⟨k + 1, by omega, by go_num, meet_step a b k hz.out hlt (.inl h1)⟩
        case measure => simp [intOf]; omega
      · cases h2 : inB b k
        · go_wp2_with (go_at_call 19; refine (in_any _ _ _).mono ?_; rintro e w' ⟨rfl, rfl⟩)
          go_round
          case rel => exact ⟨k + 1, by omega, by go_num, meet_step a b k hz.out hlt (.inr h2)⟩
          case measure => simp [intOf]; omega
        · have hf := meetB_true_of a b k h1 h2
          go_wp2_with (go_at_call 19; refine (in_any _ _ _).mono ?_; rintro e w' ⟨rfl, rfl⟩)
          go_ret
          exact ⟨by first | rfl | (rw [hf]; rfl), rfl⟩
    · have hk32 : k = 32 := by omega
      subst hk32
      have ht : meetB a b = false := by have := hz.out; rw [and_all32] at this; simp [meetB, this]
      go_wp2_with fail
      go_ret
      exact ⟨by first | rfl | (rw [ht]; rfl), rfl⟩
theorem both_any (a b : BitVec 32) (w : World) :
    Calls Tryd.prog 41 #[.int .u32 (uz a), .int .u32 (uz b)] w fun e w' => e = .returned (.int .u32 (uz (a &&& b))) ∧ w = w' := by
  go_enter Tryd.func41, Tryd.ntmps41
  go_wp2_with fail
  go_loop [5, 6] (fun s i => ∃ k : Nat, k ≤ 32 ∧ i = .int .i64 k ∧ s = .int .u32 (uz (lows (a &&& b) k))) (fun _ i => 32 - (intOf i).toNat)
  case atStart => exact ⟨0, by omega, rfl, rfl⟩
  case round =>
    obtain ⟨k, hk, rfl, rfl⟩ := hrel
    by_cases hlt : k < 32
    · cases h1 : inB a k
      · have HS : Hid (lows (a &&& b) (k + 1) = lows (a &&& b) k) := lows_f _ _ (by rw [inB_and, h1]; rfl)
        go_wp2_with (go_at_call 19; refine (in_any _ _ _).mono ?_; rintro e w' ⟨rfl, rfl⟩)
        go_round
        case rel => exact ⟨k + 1, by omega, by go_num, by rw [HS.out]⟩
        case measure => simp [intOf]; omega
      · cases h2 : inB b k
        · have HS : Hid (lows (a &&& b) (k + 1) = lows (a &&& b) k) := lows_f _ _ (by rw [inB_and, h1, h2]; rfl)
          go_wp2_with (go_at_call 19; refine (in_any _ _ _).mono ?_; rintro e w' ⟨rfl, rfl⟩)
          go_round
          case rel => exact ⟨k + 1, by omega, by go_num, by rw [HS.out]⟩
          case measure => simp [intOf]; omega
        · have HS : Hid (lows (a &&& b) (k + 1) = lows (a &&& b) k + 1#32 <<< k) := lows_t _ _ (by rw [inB_and, h1, h2]; rfl)
          go_wp2_with (go_at_call 19; refine (in_any _ _ _).mono ?_; rintro e w' ⟨rfl, rfl⟩)
          go_round
          case rel => exact ⟨k + 1, by omega, by go_num, by rw [HS.out]⟩
          case measure => simp [intOf]; omega
    · have hk32 : k = 32 := by omega
      subst hk32
      have HL : Hid (lows (a &&& b) 32 = a &&& b) := lows_all _
      go_wp2_with fail
      go_ret
      exact ⟨(congrArg (fun x => Ending.returned (.int .u32 (uz x))) HL.out : _), rfl⟩

/-! ### The least vertex of a set -/
/-- The least vertex of a set; 32 if there is none. -/
def ctz (x : BitVec 32) : Nat := Lib.ctz 32 x.toNat
theorem ctz_lt (x : BitVec 32) (h0 : x ≠ 0#32) : ctz x < 32 := by
  have hx0 : x.toNat ≠ 0 := fun h => h0 (BitVec.eq_of_toNat_eq (by simpa using h))
  exact (Lib.lowest_bit 32 x.toNat hx0 x.isLt).2
theorem ctz_bit (x : BitVec 32) (h0 : x ≠ 0#32) : x &&& -x = 1#32 <<< ctz x := by
  have hx0 : x.toNat ≠ 0 := fun h => h0 (BitVec.eq_of_toNat_eq (by simpa using h))
  have h1 := (Lib.lowest_bit 32 x.toNat hx0 x.isLt).1
  apply BitVec.eq_of_toNat_eq
  rw [two_pow_toNat _ (ctz_lt x h0), BitVec.toNat_and, BitVec.toNat_neg, Nat.mod_eq_of_lt (by have := x.isLt; omega), h1]
  rfl
end Go.Proofs.YtaongngoacbodaaDoor
