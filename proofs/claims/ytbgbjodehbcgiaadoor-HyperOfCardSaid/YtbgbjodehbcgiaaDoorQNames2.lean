/- The contracts of osierref07.among, run, IsName. -/
import Derived.Test.YtbgbjodehbcgiaaDoorQNames
namespace Go.Proofs.YtbgbjodehbcgiaaDoor
open Go.RowKit

/-- Does the byte stand in the text? -/
def amB (c : Int) (t : ByteArray) : Bool := (List.range t.size).any fun i => byt t i == c
theorem amB_hit {c : Int} {t : ByteArray} {k : Nat} (hk : k < t.size) (h : (byt t k == c) = true) : amB c t = true := by
  unfold amB
  rw [List.any_eq_true]
  exact ⟨k, List.mem_range.2 hk, h⟩
theorem amB_miss {c : Int} {t : ByteArray} (h : ∀ i, i < t.size → (byt t i == c) = false) : amB c t = false := by
  unfold amB
  rw [List.any_eq_false]
  intro i hi
  rw [h i (List.mem_range.1 hi)]
  simp
theorem among_any (c : Int) (t : ByteArray) (w : World) (ht : t.size ≤ 1000) : Calls Tryd.prog 107 #[.int .u8 c, .string t] w fun e w' => e = .returned (.bool (amB c t)) ∧ w = w' := by
  go_enter Tryd.func107, Tryd.ntmps107
  go_wp2_with fail
  go_loop [5] (fun i => ∃ k : Nat, k ≤ t.size ∧ i = .int .i64 k ∧ Hid (∀ j, j < k → (byt t j == c) = false)) (fun i => t.size - (intOf i).toNat)
  case atStart => exact ⟨0, Nat.zero_le _, rfl, Lib.hid fun j hj => absurd hj (Nat.not_lt_zero _)⟩
  case round =>
    obtain ⟨k, hk, rfl, hall⟩ := hrel
    by_cases hlt : k < t.size
    · have b1 : (0 : Int) ≤ k := by omega
      have b2 : (k : Int) < t.size := by omega
      have hx := byt_eq t k hlt
      obtain ⟨b, hb⟩ : ∃ b, (byt t k == c) = b := ⟨_, rfl⟩
      have HB := Lib.hid hb
      rw [← hx] at hb
      cases b
      · have HN : Hid (∀ j, j < k + 1 → (byt t j == c) = false) := Lib.hid fun j hj => by
          rcases Nat.lt_or_ge j k with d | d
          · exact hall.out j d
          · obtain rfl : j = k := by omega
            exact HB.out
        clear hx
        go_wp2_with fail
        go_round
        case rel => exact ⟨k + 1, by omega, by go_num, HN⟩
        case measure => simp [intOf]; omega
      · have HT := Lib.hid (amB_hit hlt HB.out)
        clear hx
        go_wp2_with fail
        go_ret
        exact ⟨congrArg (fun b => Ending.returned (.bool b)) HT.out.symm, rfl⟩
    · have HF : Hid (amB c t = false) := Lib.hid (amB_miss fun i hi => hall.out i (by omega))
      go_wp2_with fail
      go_ret
      exact ⟨congrArg (fun b => Ending.returned (.bool b)) HF.out.symm, rfl⟩
/-- How far the text's bytes stand in another. -/
def RunAt (s t : ByteArray) (n : Nat) : Prop := n ≤ s.size ∧ (∀ i, i < n → amB (byt s i) t = true) ∧ (n < s.size → amB (byt s n) t = false)
theorem run07_any (s t : ByteArray) (w : World) (hs : s.size ≤ 1000) (ht : t.size ≤ 1000) : Calls Tryd.prog 108 #[.string s, .int .i64 0, .string t] w fun e w' => ∃ n : Nat, e = .returned (.int .i64 n) ∧ Hid (RunAt s t n) ∧ w = w' := by
  have HA := Lib.hid (fun c w => among_any c t w ht)
  go_enter Tryd.func108, Tryd.ntmps108
  go_wp2_with fail
  go_loop [7] (fun i => ∃ k : Nat, k ≤ s.size ∧ i = .int .i64 k ∧ Hid (∀ j, j < k → amB (byt s j) t = true)) (fun i => s.size - (intOf i).toNat)
  case atStart => exact ⟨0, Nat.zero_le _, rfl, Lib.hid fun j hj => absurd hj (Nat.not_lt_zero _)⟩
  case round =>
    obtain ⟨k, hk, rfl, hall⟩ := hrel
    have z0 : (0 : Int) + k = k := by omega
    have wk : IntKind.i64.wrap (k : Int) = k := IntWalk.i64_in _ (by omega)
    by_cases hlt : k < s.size
    · have b1 : (0 : Int) ≤ k := by omega
      have b2 : (k : Int) < s.size := by omega
      have HX := Lib.hid (byt_eq s k hlt)
      obtain ⟨b, hb⟩ : ∃ b, amB (byt s k) t = b := ⟨_, rfl⟩
      have HB := Lib.hid hb
      have HA2 : Hid (∀ wr : World, Calls Tryd.prog 107 #[.int .u8 (byt s k), .string t] wr fun e w' => e = .returned (.bool b) ∧ wr = w') := Lib.hid fun wr => by
        have := HA.out (byt s k) wr
        rwa [HB.out] at this
      rw [← HX.out] at HA2
      clear hb
      cases b
      · have HE : Hid (RunAt s t k) := Lib.hid ⟨hk, hall.out, fun _ => HB.out⟩
        go_wp2_with fail
        refine (HA2.out _).mono ?_
        rintro e w' ⟨rfl, rfl⟩
        go_wp2_with fail
        go_ret
        exact ⟨k, rfl, HE, rfl⟩
      · have HN : Hid (∀ j, j < k + 1 → amB (byt s j) t = true) := Lib.hid fun j hj => by
          rcases Nat.lt_or_ge j k with d | d
          · exact hall.out j d
          · obtain rfl : j = k := by omega
            exact HB.out
        go_wp2_with fail
        refine (HA2.out _).mono ?_
        rintro e w' ⟨rfl, rfl⟩
        go_wp2_with fail
        go_round
        case rel => exact ⟨k + 1, by omega, by go_num, HN⟩
        case measure => simp [intOf]; omega
    · have HE : Hid (RunAt s t k) := Lib.hid ⟨hk, hall.out, fun h => absurd h hlt⟩
      go_wp2_with fail
      go_ret
      exact ⟨k, rfl, HE, rfl⟩

theorem amB_digits {c : Int} (h0 : 0 ≤ c) (h1 : c < 256) : amB c { data := #[48, 49, 50, 51, 52, 53, 54, 55, 56, 57] } = digB c := by
  have key : ∀ i : Fin 256, amB ((i.val : Nat) : Int) { data := #[48, 49, 50, 51, 52, 53, 54, 55, 56, 57] } = digB ((i.val : Nat) : Int) := by decide +kernel
  obtain ⟨n, rfl⟩ := Int.eq_ofNat_of_zero_le h0
  exact key ⟨n, by omega⟩
theorem amB_lets {c : Int} (h0 : 0 ≤ c) (h1 : c < 256) : amB c { data := #[97, 98, 99, 100, 101, 102, 103, 104, 105, 106, 107, 108, 109, 110, 111, 112, 113, 114, 115, 116, 117, 118, 119, 120, 121, 122, 65, 66, 67, 68, 69, 70, 71, 72, 73, 74, 75, 76, 77, 78, 79, 80, 81, 82, 83, 84, 85, 86, 87, 88, 89, 90, 95, 48, 49, 50, 51, 52, 53, 54, 55, 56, 57] } = ldB c := by
  have key : ∀ i : Fin 256, amB ((i.val : Nat) : Int) { data := #[97, 98, 99, 100, 101, 102, 103, 104, 105, 106, 107, 108, 109, 110, 111, 112, 113, 114, 115, 116, 117, 118, 119, 120, 121, 122, 65, 66, 67, 68, 69, 70, 71, 72, 73, 74, 75, 76, 77, 78, 79, 80, 81, 82, 83, 84, 85, 86, 87, 88, 89, 90, 95, 48, 49, 50, 51, 52, 53, 54, 55, 56, 57] } = ldB ((i.val : Nat) : Int) := by decide +kernel
  obtain ⟨n, rfl⟩ := Int.eq_ofNat_of_zero_le h0
  exact key ⟨n, by omega⟩
theorem runAt_name {s : ByteArray} {n : Nat} (h : RunAt s { data := #[97, 98, 99, 100, 101, 102, 103, 104, 105, 106, 107, 108, 109, 110, 111, 112, 113, 114, 115, 116, 117, 118, 119, 120, 121, 122, 65, 66, 67, 68, 69, 70, 71, 72, 73, 74, 75, 76, 77, 78, 79, 80, 81, 82, 83, 84, 85, 86, 87, 88, 89, 90, 95, 48, 49, 50, 51, 52, 53, 54, 55, 56, 57] } n) : EndAt s n :=
  ⟨h.1, fun i hi => by have := byt_bounds s i; rw [← amB_lets this.1 this.2]; exact h.2.1 i hi, fun hi => by have := byt_bounds s n; rw [← amB_lets this.1 this.2]; exact h.2.2 hi⟩
theorem nameB_ref {s : ByteArray} {n : Nat} (h : EndAt s n) (h0 : 1 ≤ s.size) (h16 : s.size ≤ 16) : nameB s = (!digB (byt s 0) && decide (n = s.size)) := by
  rw [nameB_of h h0, decide_eq_true h16, Bool.and_true]
  by_cases e : n = s.size
  · have := h.2.1 0 (by omega)
    unfold ldB at this
    rw [decide_eq_true e, Bool.and_true, Bool.and_true]
    have hx : letB (byt s 0) = true → digB (byt s 0) = false := by
      unfold letB digB
      simp only [Bool.or_eq_true, Bool.and_eq_true, decide_eq_true_eq, beq_iff_eq, Bool.and_eq_false_iff, decide_eq_false_iff_not]
      omega
    cases hl : letB (byt s 0)
    · rw [hl, Bool.false_or] at this; rw [this]; rfl
    · rw [hx hl]; rfl
  · rw [decide_eq_false e, Bool.and_false, Bool.and_false]
set_option maxRecDepth 100000 in
theorem r07isName_any (s : ByteArray) (w : World) : Calls Tryd.prog 69 #[.string s] w fun e w' => e = .returned (.bool (nameB s)) ∧ w = w' := by
  by_cases h0 : 1 ≤ s.size
  · have g0 : decide ((1 : Int) ≤ s.size) = true := decide_eq_true (by omega)
    by_cases h16 : s.size ≤ 16
    · have g1 : decide ((s.size : Int) ≤ 16) = true := decide_eq_true (by omega)
      have h1 : 0 < s.size := by omega
      have b2 : (0 : Int) < s.size := by omega
      have HX := Lib.hid (byt_eq s 0 h1)
      have HN := Lib.hid (fun n h => nameB_ref (s := s) (n := n) h h0 h16)
      have HA : Hid (∀ wr : World, Calls Tryd.prog 107 #[.int .u8 (byt s 0), .string { data := #[48, 49, 50, 51, 52, 53, 54, 55, 56, 57] }] wr fun e w' => e = .returned (.bool (digB (byt s 0))) ∧ wr = w') := Lib.hid fun wr => by
        have := among_any (byt s 0) { data := #[48, 49, 50, 51, 52, 53, 54, 55, 56, 57] } wr (by decide)
        have hb := byt_bounds s 0
        rwa [amB_digits hb.1 hb.2] at this
      have HR : Hid (∀ wr : World, Calls Tryd.prog 108 #[.string s, .int .i64 0, .string { data := #[97, 98, 99, 100, 101, 102, 103, 104, 105, 106, 107, 108, 109, 110, 111, 112, 113, 114, 115, 116, 117, 118, 119, 120, 121, 122, 65, 66, 67, 68, 69, 70, 71, 72, 73, 74, 75, 76, 77, 78, 79, 80, 81, 82, 83, 84, 85, 86, 87, 88, 89, 90, 95, 48, 49, 50, 51, 52, 53, 54, 55, 56, 57] }] wr fun e w' => ∃ n : Nat, e = .returned (.int .i64 n) ∧ Hid (EndAt s n) ∧ wr = w') := Lib.hid fun wr => by
        refine (run07_any s _ wr (by omega) (by decide)).mono ?_
        rintro e w' ⟨n, he, hn, hw⟩
        exact ⟨n, he, Lib.hid (runAt_name hn.out), hw⟩
      have HEX := Lib.hid (endAt_exists s)
      obtain ⟨db, hdb⟩ : ∃ b, digB (byt s 0) = b := ⟨_, rfl⟩
      rw [hdb] at HA HN
      clear hdb h0 h16
      rw [← HX.out] at HA
      cases db
      · go_enter Tryd.func69, Tryd.ntmps69
        go_wp2_with fail
        refine (HA.out _).mono ?_
        rintro e w' ⟨rfl, rfl⟩
        go_wp2_with fail
        refine (HR.out _).mono ?_
        rintro e w' ⟨n, rfl, hn, rfl⟩
        by_cases hns : n = s.size
        · have e1 : ((n : Int) == (s.size : Int)) = true := by simp [hns]
          have HF : Hid (nameB s = true) := Lib.hid (by rw [HN.out n hn.out, decide_eq_true hns]; rfl)
          clear hns hn
          go_wp2_with fail
          go_ret
          exact ⟨congrArg (fun b => Ending.returned (.bool b)) HF.out.symm, rfl⟩
        · have e1 : ((n : Int) == (s.size : Int)) = false := by rw [beq_eq_false_iff_ne]; omega
          have HF : Hid (nameB s = false) := Lib.hid (by rw [HN.out n hn.out, decide_eq_false hns]; rfl)
          clear hns hn
          go_wp2_with fail
          go_ret
          exact ⟨congrArg (fun b => Ending.returned (.bool b)) HF.out.symm, rfl⟩
      · have HF : Hid (nameB s = false) := Lib.hid (by obtain ⟨n, hn⟩ := HEX.out; rw [HN.out n hn]; rfl)
        rw [HF.out]
        go_enter Tryd.func69, Tryd.ntmps69
        go_wp2_with fail
        refine (HA.out _).mono ?_
        rintro e w' ⟨rfl, rfl⟩
        go_wp2_with fail
        go_ret
        exact ⟨rfl, rfl⟩
    · have g1 : decide ((s.size : Int) ≤ 16) = false := decide_eq_false (by omega)
      have HF : Hid (nameB s = false) := Lib.hid (by unfold nameB; rw [decide_eq_false h16, Bool.and_false]; rfl)
      clear h16 h0
      rw [HF.out]
      go_enter Tryd.func69, Tryd.ntmps69
      go_wp2_with fail
      go_ret
      exact ⟨rfl, rfl⟩
  · have g0 : decide ((1 : Int) ≤ s.size) = false := decide_eq_false (by omega)
    have HF : Hid (nameB s = false) := Lib.hid (nameB_empty (by omega))
    clear h0
    rw [HF.out]
    go_enter Tryd.func69, Tryd.ntmps69
    go_wp2_with fail
    go_ret
    exact ⟨rfl, rfl⟩
end Go.Proofs.YtbgbjodehbcgiaaDoor
