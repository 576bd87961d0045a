/- Contracts of hyper.near, hyper.Neighbours; the reference's Near, Valid, Copy, Same; SameInts, Ints. -/
import Derived.Test.YtaongngoacbodaaDoorGr1
import Derived.Test.YtaongngoacbodaaDoorOwn
namespace Go.Proofs.YtaongngoacbodaaDoor
open Go.RowKit

attribute [local go_sem ↓] uz_and uz_or uz_andNot uz_and_one uz_shr uz_shl_one uz_shl uz_sub uz_sub_one uz_add uz_beq_zero uz_bne_zero uz_beq uz_bne uz_beq_one

def orAll (l : List (BitVec 32)) : BitVec 32 := l.foldl (· ||| ·) 0#32
theorem orAll_snoc (l : List (BitVec 32)) (x : BitVec 32) : orAll (l ++ [x]) = orAll l ||| x := by simp [orAll]
/-- The vertices of the edges that have v. -/
def nearU (E : List (BitVec 32)) (v : Int) : BitVec 32 := orAll (E.filter fun e => inB e v)
theorem nearU_t (l : List (BitVec 32)) (x : BitVec 32) (v : Int) (h : inB x v = true) : nearU (l ++ [x]) v = nearU l v ||| x := by
  simp [nearU, List.filter_append, h, orAll_snoc]
theorem nearU_f (l : List (BitVec 32)) (x : BitVec 32) (v : Int) (h : inB x v = false) : nearU (l ++ [x]) v = nearU l v := by
  simp [nearU, List.filter_append, h]
def nearS (E : List (BitVec 32)) (v : Int) : BitVec 32 := nearU E v &&& ~~~(1#32 <<< v.toNat)

theorem near_any (V v : Int) (A : Option Addr) (E : List (BitVec 32)) (c : Nat) (w : World) (h0 : 0 ≤ v) (hl : E.length ≤ 35184372087808) (hE : Rd w w.heap.size A (us E)) :
    Calls Tryd.prog 37 #[.agg #[.int .i64 V, .slice A E.length c], .int .i64 v] w fun e w' => e = .returned (.int .u32 (uz (nearS E v))) ∧ Below w.heap.size w w' := by
  go_enter Tryd.func37, Tryd.ntmps37
  go_wp2
  generalize hW : w.alloc _ = W
  have hb : Below w.heap.size w W := by rw [← hW]; exact below_alloc _ _
  clear hW
  have hE' := hE.below hb
  go_loop [5, 7, 11] (fun s _ i => ∃ k : Nat, k ≤ E.length ∧ i = .int .i64 k ∧ s = .int .u32 (uz (nearU (E.take k) v))) (fun _ _ i => E.length - (intOf i).toNat)
  case atStart => exact ⟨0, Nat.zero_le _, rfl, rfl⟩
  case round =>
    obtain ⟨k, hk, rfl, rfl⟩ := hrel
    by_cases hlt : k < E.length
    · obtain ⟨ad, hA, _, hc⟩ := hE'.u_at hlt
      subst hA
      have hs := take_snoc E k hlt
      generalize E[k] = x at hc hs
      have HS := Lib.hid hs
      clear hs
      have hi : (x >>> v.toNat &&& 1#32 == 1#32) = inB x v := by rw [shr_one]; simp [inB, h0]
      cases hp : inB x v
      all_goals
        rw [hp] at hi
        go_wp2
        go_round
        case rel => exact ⟨k + 1, by omega, by go_num, by rw [HS.out]; first | rw [nearU_t _ _ _ hp] | rw [nearU_f _ _ _ hp]⟩
        case measure => simp [intOf]; omega
    · go_wp2
      go_ret
      exact ⟨by first | rfl | (rw [List.take_of_length_le (by omega)]; rfl), hb⟩

theorem neighbours_any (V v : Int) (A : Option Addr) (E : List (BitVec 32)) (c : Nat) (w : World) (hl : E.length ≤ 35184372087808) (hE : Rd w w.heap.size A (us E)) :
    Calls Tryd.prog 28 #[.agg #[.int .i64 V, .slice A E.length c], .int .i64 v] w fun e w' =>
      e = .returned (.tuple (if validB V E then (if 0 ≤ v ∧ v < V then #[.int .u32 (uz (nearS E v)), .int .i64 0] else #[.int .u32 (uz 0#32), .int .i64 141]) else #[.int .u32 (uz 0#32), .int .i64 140])) ∧ Below w.heap.size w w' := by
  cases hv : validB V E
  · simp only [Bool.false_eq_true, if_false]
    go_enter Tryd.func28, Tryd.ntmps28
    go_wp2_with fail
    have hb0 := below_alloc w (.cells #[.int .i64 V, .slice A E.length c] 24)
    refine (valid_any V A E c _ hl (hE.later hb0)).mono ?_
    rintro e w1 ⟨rfl, hb⟩
    rw [hv]
    go_wp2
    go_ret2
    exact ⟨rfl, bthen hb0 hb⟩
  · simp only [if_true]
    by_cases h0 : 0 ≤ v
    · by_cases h1 : v < V
      · rw [if_pos ⟨h0, h1⟩]
        go_enter Tryd.func28, Tryd.ntmps28
        go_wp2_with fail
        have hb0 := below_alloc w (.cells #[.int .i64 V, .slice A E.length c] 24)
        refine (valid_any V A E c _ hl (hE.later hb0)).mono ?_
        rintro e w1 ⟨rfl, hb⟩
        rw [hv]
        have hb1 := bthen hb0 hb
        obtain ⟨hc, hf⟩ := bcell hb
        go_wp2_with fail
        refine (near_any V v A E c _ h0 hl (hE.later hb1)).mono ?_
        rintro e w2 ⟨rfl, hb2⟩
        go_wp2
        go_ret2
        exact ⟨rfl, bthen hb1 hb2⟩
      · rw [if_neg (by omega)]
        go_enter Tryd.func28, Tryd.ntmps28
        go_wp2_with fail
        have hb0 := below_alloc w (.cells #[.int .i64 V, .slice A E.length c] 24)
        refine (valid_any V A E c _ hl (hE.later hb0)).mono ?_
        rintro e w1 ⟨rfl, hb⟩
        rw [hv]
        obtain ⟨hc, hf⟩ := bcell hb
        go_wp2
        go_ret2
        exact ⟨rfl, bthen hb0 hb⟩
    · rw [if_neg (by omega)]
      go_enter Tryd.func28, Tryd.ntmps28
      go_wp2_with fail
      have hb0 := below_alloc w (.cells #[.int .i64 V, .slice A E.length c] 24)
      refine (valid_any V A E c _ hl (hE.later hb0)).mono ?_
      rintro e w1 ⟨rfl, hb⟩
      rw [hv]
      obtain ⟨hc, hf⟩ := bcell hb
      go_wp2
      go_ret2
      exact ⟨rfl, bthen hb0 hb⟩

/-! ### The reference -/
/-- Are v and u neighbours? -/
def nearB (E : List (BitVec 32)) (v u : Int) : Bool := decide (v ≠ u) && E.any fun e => inB e v && inB e u
theorem r14near_any (V v u : Int) (A : Option Addr) (E : List (BitVec 32)) (c : Nat) (w : World) (hl : E.length ≤ 35184372087808) (hE : Rd w w.heap.size A (us E)) :
    Calls Tryd.prog 18 #[.agg #[.int .i64 V, .slice A E.length c], .int .i64 v, .int .i64 u] w fun e w' => e = .returned (.bool (nearB E v u)) ∧ Below w.heap.size w w' := by
  go_enter Tryd.func18, Tryd.ntmps18
  go_wp2_with fail
  have hc0 : (w.alloc (.cells #[.int .i64 V, .slice A E.length c] 24)).cell? ⟨w.heap.size, 1, none⟩ = some (.slice A E.length c) := by simp [World.cell?_alloc_new]
  generalize hW : w.alloc _ = W at hc0 ⊢
  have hb : Below w.heap.size w W := by rw [← hW]; exact below_alloc _ _
  clear hW
  have hE' := hE.below hb
  go_loop [7] (fun i => ∃ k : Nat, k ≤ E.length ∧ i = .int .i64 k ∧ Hid (nearB (E.take k) v u = false)) (fun i => E.length - (intOf i).toNat)
  case atStart => exact ⟨0, Nat.zero_le _, rfl, by show nearB _ _ _ = _; simp [nearB]⟩
  case round =>
    obtain ⟨k, hk, rfl, hno⟩ := hrel
    by_cases hlt : k < E.length
    · obtain ⟨ad, hA, _, hc⟩ := hE'.u_at hlt
      subst hA
      have hs := take_snoc E k hlt
      have hat : v ≠ u → inB E[k] v = true → inB E[k] u = true → nearB E v u = true := fun h0 h1 h2 => by
        simp only [nearB, Bool.and_eq_true, decide_eq_true_eq, List.any_eq_true]
        exact ⟨h0, E[k], List.getElem_mem _, h1, h2⟩
      generalize E[k] = x at hc hs hat
      have HS := Lib.hid hs
      have HA := Lib.hid hat
      clear hs hat
      by_cases hvu : v = u
      · have hvu' : (v != u) = false := by simpa using hvu
        have HV := Lib.hid hvu
        clear hvu
        go_wp2_with (go_at_call 19; refine (in_any _ _ _).mono ?_; rintro e w' ⟨rfl, rfl⟩)
        go_round
        case rel => exact ⟨k + 1, by omega, by go_num, by show nearB _ _ _ = _; simp [nearB, HV.out]⟩
        case measure => simp [intOf]; omega
      · have hvu' : (v != u) = true := by simpa using hvu
        have HV := Lib.hid hvu
        clear hvu
        cases h1 : inB x v
        · go_wp2_with (go_at_call 19; refine (in_any _ _ _).mono ?_; rintro e w' ⟨rfl, rfl⟩)
          go_round
          case rel => exact ⟨k + 1, by omega, by go_num, by show nearB _ _ _ = _; rw [HS.out]; have := hno.out; simp only [nearB] at this ⊢; rw [any_snoc, h1, Bool.false_and, Bool.or_false]; exact this⟩
          case measure => simp [intOf]; omega
        · cases h2 : inB x u
          · go_wp2_with (go_at_call 19; refine (in_any _ _ _).mono ?_; rintro e w' ⟨rfl, rfl⟩)
            go_round
            case rel => exact ⟨k + 1, by omega, by go_num, by show nearB _ _ _ = _; rw [HS.out]; have := hno.out; simp only [nearB] at this ⊢; rw [any_snoc, h2, Bool.and_false, Bool.or_false]; exact this⟩
            case measure => simp [intOf]; omega
          · go_wp2_with (go_at_call 19; refine (in_any _ _ _).mono ?_; rintro e w' ⟨rfl, rfl⟩)
            go_ret
            exact ⟨by first | rfl | (rw [HA.out HV.out h1 h2]; rfl), hb⟩
    · have hn : nearB E v u = false := by have := hno.out; rwa [List.take_of_length_le (by omega)] at this
      go_wp2_with fail
      go_ret
      exact ⟨by first | rfl | (rw [hn]; rfl), hb⟩
end Go.Proofs.YtaongngoacbodaaDoor
