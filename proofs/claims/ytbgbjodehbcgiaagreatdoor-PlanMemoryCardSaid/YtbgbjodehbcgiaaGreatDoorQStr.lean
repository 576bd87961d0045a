/- The contracts of slices.Index, slices.Contains over texts; osierref09.At, In, Texts. -/
import Derived.Test.YtbgbjodehbcgiaaGreatDoorQMem
namespace Go.Proofs.YtbgbjodehbcgiaaGreatDoor
open Go.RowKit

theorem str_beq (x y : ByteArray) : (x.toList == y.toList) = decide (x = y) := by
  rw [Bool.eq_iff_iff, decide_eq_true_eq]; exact Lib.bytes_beq_iff x y
theorem isEmpty_empty (s : ByteArray) : s.toList.isEmpty = decide (s = ByteArray.empty) := by
  rw [ByteArray.toList_eq, Bool.eq_iff_iff, List.isEmpty_iff, decide_eq_true_eq, Array.toList_eq_nil_iff]
  constructor
  · intro h; exact ByteArray.ext h
  · rintro rfl; rfl
theorem index_any (A : Option Addr) (L : List ByteArray) (c : Nat) (x : ByteArray) (w : World) (hl : L.length ≤ 35184372087808) (hL : Rd w w.heap.size A (ss L)) :
    Calls Tryz.prog 34 #[.slice A L.length c, .string x] w fun e w' => e = .returned (.int .i64 (atI L x)) ∧ w = w' := by
  go_enter Tryz.func34, Tryz.ntmps34
  go_wp2_with fail
  go_loop [5, 8] (fun _ i => ∃ k : Nat, k ≤ L.length ∧ i = .int .i64 k ∧ Hid (∀ j, j < k → nm L j ≠ x)) (fun _ i => L.length - (intOf i).toNat)
  case atStart => exact ⟨0, Nat.zero_le _, rfl, Lib.hid fun j hj => absurd hj (Nat.not_lt_zero _)⟩
  case round =>
    obtain ⟨k, hk, rfl, hno⟩ := hrel
    by_cases hlt : k < L.length
    · obtain ⟨ad, hA, _, hc⟩ := hL.s_at hlt
      subst hA
      have b1 : (0 : Int) ≤ k := by omega
      have b2 : (k : Int) < L.length := by omega
      have hb := str_beq x (nm L k)
      have HN : Hid (¬ nm L k = x → ∀ j, j < k + 1 → nm L j ≠ x) := Lib.hid fun h j hj => by
        rcases Nat.lt_or_ge j k with d | d
        · exact hno.out j d
        · obtain rfl : j = k := by omega
          exact h
      have HH : Hid (nm L k = x → atI L x = k) := Lib.hid fun h => atI_hit hlt h hno.out
      by_cases hx : x = nm L k
      · have HT := Lib.hid (HH.out hx.symm)
        rw [decide_eq_true hx] at hb
        clear HN HH hx
        generalize nm L k = y at hc hb
        go_wp2_with fail
        go_ret
        exact ⟨congrArg (fun z => Ending.returned (.int .i64 z)) HT.out.symm, by first | rfl | trivial⟩
      · have HT := Lib.hid (HN.out fun h => hx h.symm)
        rw [decide_eq_false hx] at hb
        clear HN HH hx hno
        generalize nm L k = y at hc hb
        go_wp2_with fail
        go_round
        case rel => exact ⟨k + 1, by omega, by go_num, HT⟩
        case measure => simp [intOf]; omega
    · have HT : Hid (atI L x = -1) := Lib.hid (atI_miss fun j hj => hno.out j (by omega))
      go_wp2_with fail
      go_ret
      exact ⟨congrArg (fun z => Ending.returned (.int .i64 z)) HT.out.symm, by first | rfl | trivial⟩
theorem has_any9 (A : Option Addr) (L : List ByteArray) (c : Nat) (x : ByteArray) (w : World) (hl : L.length ≤ 35184372087808) (hL : Rd w w.heap.size A (ss L)) :
    Calls Tryz.prog 83 #[.slice A L.length c, .string x] w fun e w' => e = .returned (.bool (decide (x ∈ L))) ∧ w = w' := by
  have HI := Lib.hid (index_any A L c x w hl hL)
  have HB : Hid (decide (0 ≤ atI L x) = decide (x ∈ L)) := Lib.hid (by rw [Bool.eq_iff_iff, decide_eq_true_eq, decide_eq_true_eq]; exact atI_nonneg)
  generalize atI L x = r at HI HB
  go_enter Tryz.func83, Tryz.ntmps83
  go_wp2_with fail
  refine HI.out.mono ?_
  rintro e w' ⟨rfl, rfl⟩
  go_wp2_with fail
  go_ret
  exact ⟨congrArg (fun z => Ending.returned (.bool z)) HB.out, by first | rfl | trivial⟩
theorem at9_any (A : Option Addr) (L : List ByteArray) (c : Nat) (x : ByteArray) (w : World) (hl : L.length ≤ 35184372087808) (hL : Rd w w.heap.size A (ss L)) :
    Calls Tryz.prog 39 #[.slice A L.length c, .string x] w fun e w' => e = .returned (.int .i64 (atI L x)) ∧ w = w' := by
  go_enter Tryz.func39, Tryz.ntmps39
  go_wp2_with fail
  go_loop [5] (fun i => ∃ k : Nat, k ≤ L.length ∧ i = .int .i64 k ∧ Hid (∀ j, j < k → nm L j ≠ x)) (fun i => L.length - (intOf i).toNat)
  case atStart => exact ⟨0, Nat.zero_le _, rfl, Lib.hid fun j hj => absurd hj (Nat.not_lt_zero _)⟩
  case round =>
    obtain ⟨k, hk, rfl, hno⟩ := hrel
    by_cases hlt : k < L.length
    · obtain ⟨ad, hA, _, hc⟩ := hL.s_at hlt
      subst hA
      have b1 : (0 : Int) ≤ k := by omega
      have b2 : (k : Int) < L.length := by omega
      have hb := str_beq (nm L k) x
      have HN : Hid (¬ nm L k = x → ∀ j, j < k + 1 → nm L j ≠ x) := Lib.hid fun h j hj => by
        rcases Nat.lt_or_ge j k with d | d
        · exact hno.out j d
        · obtain rfl : j = k := by omega
          exact h
      have HH : Hid (nm L k = x → atI L x = k) := Lib.hid fun h => atI_hit hlt h hno.out
      by_cases hx : nm L k = x
      · have HT := Lib.hid (HH.out hx)
        rw [decide_eq_true hx] at hb
        clear HN HH hx
        generalize nm L k = y at hc hb
        go_wp2_with fail
        go_ret
        exact ⟨congrArg (fun z => Ending.returned (.int .i64 z)) HT.out.symm, by first | rfl | trivial⟩
      · have HT := Lib.hid (HN.out hx)
        rw [decide_eq_false hx] at hb
        clear HN HH hx hno
        generalize nm L k = y at hc hb
        go_wp2_with fail
        go_round
        case rel => exact ⟨k + 1, by omega, by go_num, HT⟩
        case measure => simp [intOf]; omega
    · have HT : Hid (atI L x = -1) := Lib.hid (atI_miss fun j hj => hno.out j (by omega))
      go_wp2_with fail
      go_ret
      exact ⟨congrArg (fun z => Ending.returned (.int .i64 z)) HT.out.symm, by first | rfl | trivial⟩
theorem in9_any (A : Option Addr) (L : List ByteArray) (c : Nat) (x : ByteArray) (w : World) (hl : L.length ≤ 35184372087808) (hL : Rd w w.heap.size A (ss L)) :
    Calls Tryz.prog 53 #[.slice A L.length c, .string x] w fun e w' => e = .returned (.bool (decide (x ∈ L))) ∧ w = w' := by
  have HI := Lib.hid (at9_any A L c x w hl hL)
  have HB : Hid (decide (0 ≤ atI L x) = decide (x ∈ L)) := Lib.hid (by rw [Bool.eq_iff_iff, decide_eq_true_eq, decide_eq_true_eq]; exact atI_nonneg)
  generalize atI L x = r at HI HB
  go_enter Tryz.func53, Tryz.ntmps53
  go_wp2_with fail
  refine HI.out.mono ?_
  rintro e w' ⟨rfl, rfl⟩
  go_wp2_with fail
  go_ret
  exact ⟨congrArg (fun z => Ending.returned (.bool z)) HB.out, by first | rfl | trivial⟩

theorem mk_str (n : Nat) (h : n ≤ 8796093022208) (w : World) : (Instr.makeSlice 22 (.int .i64 (n : Int)) (.int .i64 (n : Int))).run Tryz.prog w = .ok (.slice (some ⟨w.heap.size, 0, none⟩) n n) (w.alloc (.cells (zeros (.string ByteArray.empty) n).toArray 9)) := by
  rw [← madeCells_zeros]
  exact run_make_row' 22 9 (.string ByteArray.empty) 16 Tryz.underlying22 Tryz.info_str rfl .i64 .i64 n (by omega) (by omega) w
theorem Tryz.size_str : (Tryz.prog.info? 9).map (·.size) = some 1 := by kernel_rfl
theorem texts_any (A : Option Addr) (L : List ByteArray) (c : Nat) (w : World) (hl : L.length ≤ 8796093022208) (hE : Rd w w.heap.size A (ss L)) :
    Calls Tryz.prog 23 #[.slice A L.length c] w fun e w' => ∃ g, e = .returned (.slice (some ⟨g, 0, none⟩) L.length L.length) ∧ w.heap.size ≤ g ∧ Row w' g 9 (ss L) ∧ Below w.heap.size w w' := by
  have hmk := mk_str L.length hl
  go_enter Tryz.func23, Tryz.ntmps23
  go_wp2_with ((with_reducible show wpList _ _ _ _ _ _); refine wp_copy_whole rfl (.tmp 7) (.tmp 8) 22 rfl 9 Tryz.underlying22 Tryz.size_str (.string ByteArray.empty) L.length c A (ss L) (ss_length L) _ rfl rfl ?_ ?_ (ss_one L) w.heap.size ?_ ?_)
  · exact Row.new_ (by simp)
  · exact hE.later (below_alloc w _)
  · omega
  · intro w1 hr hb
    go_wp2
    go_ret
    exact ⟨_, rfl, Nat.le_refl _, hr, (below_alloc w _).trans hb⟩
end Go.Proofs.YtbgbjodehbcgiaaGreatDoor
