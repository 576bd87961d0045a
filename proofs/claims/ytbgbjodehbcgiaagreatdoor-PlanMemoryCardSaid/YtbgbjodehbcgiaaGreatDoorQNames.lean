/- The contracts of what asks whether a text is a name: lex.isLetter, isDigit, nameEnd, IsName; osierref07.among, run, IsName. -/
import Derived.Test.YtbgbjodehbcgiaaGreatDoorQMem
namespace Go.Proofs.YtbgbjodehbcgiaaGreatDoor
open Go.RowKit

theorem isLetter_any (c : Int) (w : World) : Calls Tryz.prog 133 #[.int .u8 c] w fun e w' => e = .returned (.bool (letB c)) ∧ w = w' := by
  go_enter Tryz.func133, Tryz.ntmps133
  go_wp2
  all_goals
    go_ret
    refine ⟨congrArg (fun b => Ending.returned (.bool b)) ?_, rfl⟩
    unfold letB
    first | (simp [*]; done) | (rw [Bool.eq_iff_iff]; simp only [Bool.and_eq_true, Bool.or_eq_true, decide_eq_true_eq, beq_iff_eq]; omega)
theorem isDigit_any (c : Int) (w : World) : Calls Tryz.prog 146 #[.int .u8 c] w fun e w' => e = .returned (.bool (digB c)) ∧ w = w' := by
  go_enter Tryz.func146, Tryz.ntmps146
  go_wp2
  all_goals
    go_ret
    refine ⟨congrArg (fun b => Ending.returned (.bool b)) ?_, rfl⟩
    unfold digB
    first | (simp [*]; done) | (rw [decide_eq_false (by omega)]; rfl)
theorem byt_eq (s : ByteArray) (k : Nat) (h : k < s.size) : (((s[k]'h).toNat : Nat) : Int) = byt s k := by
  unfold byt
  simp only [Array.getD]
  rw [dif_pos (show k < s.data.size from h)]
  rfl
/-- How far a name's bytes go. -/
def EndAt (s : ByteArray) (n : Nat) : Prop := n ≤ s.size ∧ (∀ i, i < n → ldB (byt s i) = true) ∧ (n < s.size → ldB (byt s n) = false)
theorem nameEnd_any (s : ByteArray) (w : World) (hs : s.size ≤ 9223372036854775807) : Calls Tryz.prog 134 #[.string s, .int .i64 0] w fun e w' => ∃ n : Nat, e = .returned (.int .i64 n) ∧ Hid (EndAt s n) ∧ w = w' := by
  have HL := Lib.hid isLetter_any
  have HD := Lib.hid isDigit_any
  go_enter Tryz.func134, Tryz.ntmps134
  go_wp2_with fail
  go_loop [1] (fun i => ∃ k : Nat, k ≤ s.size ∧ i = .int .i64 k ∧ Hid (∀ j, j < k → ldB (byt s j) = true)) (fun i => s.size - (intOf i).toNat)
  case atStart => exact ⟨0, Nat.zero_le _, rfl, Lib.hid fun j hj => absurd hj (Nat.not_lt_zero _)⟩
  case round =>
    obtain ⟨k, hk, rfl, hall⟩ := hrel
    by_cases hlt : k < s.size
    · have b1 : (0 : Int) ≤ k := by omega
      have b2 : (k : Int) < s.size := by omega
      have HX := Lib.hid (byt_eq s k hlt)
      obtain ⟨lb, hlb⟩ : ∃ b, letB (byt s k) = b := ⟨_, rfl⟩
      obtain ⟨gb, hgb⟩ : ∃ b, digB (byt s k) = b := ⟨_, rfl⟩
      have HLB := Lib.hid hlb
      have HGB := Lib.hid hgb
      have HN : Hid (lb = true ∨ gb = true → ∀ j, j < k + 1 → ldB (byt s j) = true) := Lib.hid fun h j hj => by
        rcases Nat.lt_or_ge j k with d | d
        · exact hall.out j d
        · obtain rfl : j = k := by omega
          unfold ldB
          rw [HLB.out, HGB.out]
          simpa using h
      have HE : Hid (lb = false → gb = false → EndAt s k) := Lib.hid fun h1 h2 => ⟨hk, hall.out, fun _ => by unfold ldB; rw [HLB.out, HGB.out, h1, h2]; rfl⟩
      have HL2 : Hid (∀ wr : World, Calls Tryz.prog 133 #[.int .u8 (byt s k)] wr fun e w' => e = .returned (.bool lb) ∧ wr = w') := Lib.hid fun wr => by
        have := HL.out (byt s k) wr
        rwa [HLB.out] at this
      have HD2 : Hid (∀ wr : World, Calls Tryz.prog 146 #[.int .u8 (byt s k)] wr fun e w' => e = .returned (.bool gb) ∧ wr = w') := Lib.hid fun wr => by
        have := HD.out (byt s k) wr
        rwa [HGB.out] at this
      clear hlb hgb hall
      rw [← HX.out] at HL2 HD2
      cases lb
      · cases gb
        · have HC := Lib.hid (HE.out rfl rfl)
          go_wp2_with fail
          refine (HL2.out _).mono ?_
          rintro e w' ⟨rfl, rfl⟩
          go_wp2_with fail
          refine (HD2.out _).mono ?_
          rintro e w' ⟨rfl, rfl⟩
          go_wp2_with fail
          go_ret
          exact ⟨k, rfl, HC, rfl⟩
        · have HC := Lib.hid (HN.out (.inr rfl))
          go_wp2_with fail
          refine (HL2.out _).mono ?_
          rintro e w' ⟨rfl, rfl⟩
          go_wp2_with fail
          refine (HD2.out _).mono ?_
          rintro e w' ⟨rfl, rfl⟩
          go_wp2_with fail
          go_round
          case rel => exact ⟨k + 1, by omega, by go_num, HC⟩
          case measure => simp [intOf]; omega
      · have HC := Lib.hid (HN.out (.inl rfl))
        go_wp2_with fail
        refine (HL2.out _).mono ?_
        rintro e w' ⟨rfl, rfl⟩
        go_wp2_with fail
        go_round
        case rel => exact ⟨k + 1, by omega, by go_num, HC⟩
        case measure => simp [intOf]; omega
    · have HE : Hid (EndAt s k) := Lib.hid ⟨hk, hall.out, fun h => absurd h hlt⟩
      go_wp2_with fail
      go_ret
      exact ⟨k, rfl, HE, rfl⟩

theorem nameB_of {s : ByteArray} {n : Nat} (h : EndAt s n) (h0 : 1 ≤ s.size) : nameB s = (letB (byt s 0) && (decide (n = s.size) && decide (s.size ≤ 16))) := by
  have e : ((List.range s.size).all fun i => ldB (byt s i)) = decide (n = s.size) := by
    rw [Bool.eq_iff_iff, List.all_eq_true, decide_eq_true_eq]
    constructor
    · intro k
      apply Classical.byContradiction
      intro hn
      have hlt : n < s.size := by have := h.1; omega
      have := k n (List.mem_range.2 hlt)
      rw [h.2.2 hlt] at this; cases this
    · rintro rfl x hx
      exact h.2.1 x (List.mem_range.1 hx)
  unfold nameB
  rw [e, decide_eq_true h0]
  cases letB (byt s 0) <;> cases decide (n = s.size) <;> cases decide (s.size ≤ 16) <;> rfl
theorem endAt_exists (s : ByteArray) : ∃ n, EndAt s n := by
  have key : ∀ m, m ≤ s.size → (∀ i, i < m → ldB (byt s i) = true) ∨ ∃ n, EndAt s n := by
    intro m
    induction m with
    | zero => intro _; exact .inl fun i hi => absurd hi (Nat.not_lt_zero _)
    | succ m ih =>
      intro hm
      rcases ih (by omega) with k | k
      · cases e : ldB (byt s m)
        · exact .inr ⟨m, by omega, k, fun _ => e⟩
        · refine .inl fun i hi => ?_
          rcases Nat.lt_or_ge i m with d | d
          · exact k i d
          · obtain rfl : i = m := by omega
            exact e
      · exact .inr k
  rcases key s.size (Nat.le_refl _) with k | k
  · exact ⟨s.size, Nat.le_refl _, k, fun h => absurd h (Nat.lt_irrefl _)⟩
  · exact k
theorem nameB_empty {s : ByteArray} (h0 : s.size = 0) : nameB s = false := by
  unfold nameB
  rw [decide_eq_false (by omega)]; rfl
theorem isEmpty_iff (s : ByteArray) : s.toList.isEmpty = decide (s.size = 0) := by
  rw [ByteArray.toList_eq, Bool.eq_iff_iff, List.isEmpty_iff, decide_eq_true_eq, Array.toList_eq_nil_iff]
  exact Array.size_eq_zero_iff.symm
set_option maxRecDepth 100000 in
theorem isName_any (s : ByteArray) (w : World) (hs : s.size ≤ 9223372036854775807) : Calls Tryz.prog 122 #[.string s] w fun e w' => e = .returned (.bool (nameB s)) ∧ w = w' := by
  have HL := Lib.hid isLetter_any
  have HD := Lib.hid (nameEnd_any s w hs)
  have he := isEmpty_iff s
  by_cases h0 : s.size = 0
  · rw [decide_eq_true h0] at he
    rw [nameB_empty h0]
    clear h0
    go_enter Tryz.func122, Tryz.ntmps122
    go_wp2_with fail
    go_ret
    exact ⟨rfl, rfl⟩
  · rw [decide_eq_false h0] at he
    have h1 : 0 < s.size := by omega
    have b2 : (0 : Int) < s.size := by omega
    have HX := Lib.hid (byt_eq s 0 h1)
    have HN := Lib.hid (fun n h => nameB_of (s := s) (n := n) h (by omega))
    have HL2 := Lib.hid (fun wr => HL.out (byt s 0) wr)
    have HEX := Lib.hid (endAt_exists s)
    clear h0
    obtain ⟨lb, hlb⟩ : ∃ b, letB (byt s 0) = b := ⟨_, rfl⟩
    rw [hlb] at HL2 HN
    clear hlb
    rw [← HX.out] at HL2
    go_enter Tryz.func122, Tryz.ntmps122
    cases lb
    · have HF : Hid (nameB s = false) := Lib.hid (by obtain ⟨n, hn⟩ := HEX.out; rw [HN.out n hn]; rfl)
      rw [HF.out]
      go_wp2_with fail
      refine (HL2.out _).mono ?_
      rintro e w' ⟨rfl, rfl⟩
      go_wp2_with fail
      go_ret
      exact ⟨rfl, rfl⟩
    · go_wp2_with fail
      refine (HL2.out _).mono ?_
      rintro e w' ⟨rfl, rfl⟩
      go_wp2_with fail
      refine HD.out.mono ?_
      rintro e w' ⟨n, rfl, hn, rfl⟩
      by_cases hns : n = s.size
      · have e1 : ((n : Int) == (s.size : Int)) = true := by simp [hns]
        have HF : Hid (nameB s = decide ((s.size : Int) ≤ 16)) := Lib.hid (by rw [HN.out n hn.out, decide_eq_true hns, Bool.true_and, Bool.true_and, Bool.eq_iff_iff, decide_eq_true_eq, decide_eq_true_eq]; omega)
        clear hns hn
        go_wp2_with fail
        go_ret
        exact ⟨congrArg (fun b => Ending.returned (.bool b)) HF.out.symm, rfl⟩
      · have e1 : ((n : Int) == (s.size : Int)) = false := by rw [beq_eq_false_iff_ne]; omega
        have HF : Hid (nameB s = false) := Lib.hid (by rw [HN.out n hn.out, decide_eq_false hns]; rfl)
        clear hns hn
        go_wp2_with fail
        go_ret
        exact ⟨congrArg (fun b => Ending.returned (.bool b)) HF.out.symm, rfl⟩
end Go.Proofs.YtbgbjodehbcgiaaGreatDoor
