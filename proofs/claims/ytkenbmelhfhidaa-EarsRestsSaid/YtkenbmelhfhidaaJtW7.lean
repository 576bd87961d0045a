/- The contracts of osierref14.Size, osierref15.SameSets, jointree.Keys, osierref16.Keys. -/
import Derived.Test.YtkenbmelhfhidaaJtW6
import Derived.StillTailTactics
namespace Go.Proofs.Ytkenbmelhfhidaa
open Go.RowKit

attribute [local go_sem ↓] uz_and uz_or uz_andNot uz_and_one uz_shr uz_shl_one uz_shl uz_sub uz_sub_one uz_add uz_beq_zero uz_bne_zero uz_beq uz_bne uz_beq_one

theorem size_any (x : BitVec 32) (w : World) : Calls Try.prog 40 #[.int .u32 (uz x)] w fun e w' => e = .returned (.int .i64 (sizeW x : Nat)) ∧ w = w' := by
  go_enter Try.func40, Try.ntmps40
  go_wp2_with fail
  go_loop [3, 4] (fun n i => ∃ k : Nat, k ≤ 32 ∧ i = .int .i64 k ∧ n = .int .i64 (cntB (fun v => x.getLsbD v) k : Nat)) (fun _ i => 32 - (intOf i).toNat)
  case atStart => exact ⟨0, by omega, rfl, rfl⟩
  case round =>
    obtain ⟨k, hk, rfl, rfl⟩ := hrel
    have hcl := cntB_le (fun v => x.getLsbD v) k
    by_cases hlt : k < 32
    · have hi := inB_nat x k
      have HT := Lib.hid (cntB_t (p := fun v => x.getLsbD v) (k := k))
      have HF := Lib.hid (cntB_f (p := fun v => x.getLsbD v) (k := k))
      generalize cntB (fun v => x.getLsbD v) k = r at hcl HT HF ⊢
      cases hb : inB x k
      · have HF2 := Lib.hid (HF.out (by rw [← hi]; exact hb))
        clear hi
        go_wp2_with (go_at_call 58; refine (in_any _ _ _).mono ?_; rintro e w' ⟨rfl, rfl⟩)
        go_round
        case rel => exact ⟨k + 1, by omega, by go_num, by rw [HF2.out]⟩
        case measure => simp [intOf]; omega
      · have HT2 := Lib.hid (HT.out (by rw [← hi]; exact hb))
        clear hi
        go_wp2_with (go_at_call 58; refine (in_any _ _ _).mono ?_; rintro e w' ⟨rfl, rfl⟩)
        go_round
        case rel => exact ⟨k + 1, by omega, by go_num, by rw [HT2.out]; go_num⟩
        case measure => simp [intOf]; omega
    · obtain rfl : k = 32 := by omega
      have HE : Hid (cntB (fun v => x.getLsbD v) 32 = sizeW x) := rfl
      go_wp2_with fail
      go_ret
      exact ⟨by first | rfl | (rw [HE.out]; rfl), rfl⟩

theorem sameSets_any (A A' : Option Addr) (E F : List (BitVec 32)) (c c' : Nat) (w : World) (hl : E.length ≤ 35184372087808) (hl' : F.length ≤ 35184372087808) (hE : Rd w w.heap.size A (us E)) (hF : Rd w w.heap.size A' (us F)) :
    Calls Try.prog 44 #[.slice A E.length c, .slice A' F.length c'] w fun e w' => e = .returned (.bool (E == F)) ∧ ∃ n, w' = w.drewN n := by
  by_cases hlen : E.length = F.length
  · have hne : ((E.length : Int) != (F.length : Int)) = false := by simp [hlen]
    have HL := Lib.hid hlen
    clear hlen
    go_enter Try.func44, Try.ntmps44
    go_wp2_with fail
    go_loopw [5] (fun i wr => ∃ k : Nat, k ≤ E.length ∧ i = .int .i64 k ∧ Hid (E.take k = F.take k) ∧ ∃ n, wr = w.drewN n) (fun i _ => E.length - (intOf i).toNat)
    case atStart => exact ⟨0, Nat.zero_le _, rfl, rfl, 0, rfl⟩
    case round =>
      obtain ⟨k, hk, rfl, heq, n, rfl⟩ := hrel
      by_cases hlt : k < E.length
      · have hlt' : k < F.length := by have := HL.out; omega
        obtain ⟨ad, hA, _, hc⟩ := hE.u_at hlt
        obtain ⟨ad', hA', _, hc'⟩ := hF.u_at hlt'
        subst hA
        subst hA'
        have hs := take_snoc E k hlt
        have hs' := take_snoc F k hlt'
        have hat : E = F → E[k] = F[k] := fun h => by subst h; rfl
        generalize E[k] = x at hc hs hat
        generalize F[k] = y at hc' hs' hat
        have HS := Lib.hid hs
        have HS' := Lib.hid hs'
        have HA := Lib.hid hat
        clear hs hs' hat
        have b1 : (0 : Int) ≤ k := by omega
        have b2 : (k : Int) < E.length := by omega
        have b3 : (k : Int) < F.length := by omega
        by_cases hxy : x = y
        · have hne' : (x != y) = false := by simpa using hxy
          have HX := Lib.hid hxy
          clear hxy
          go_wp2_with fail
          go_quiet (fail)
          go_wp2_with fail
          go_roundw
          case rel => exact ⟨k + 1, by omega, by go_num, by show _ = _; rw [HS.out, HS'.out, heq.out, HX.out], _, rfl⟩
          case measure => simp [intOf]; omega
        · have hne' : (x != y) = true := by simpa using hxy
          have hf : (E == F) = false := by simpa using fun h => hxy (HA.out h)
          clear hxy
          go_wp2_with fail
          go_quiet (fail)
          go_wp2_with fail
          go_ret
          exact ⟨by first | rfl | (rw [hf]; rfl), _, by first | rfl | exact World.drewN_drewN _ _ _⟩
      · have hf : (E == F) = true := by
          have := heq.out
          rw [List.take_of_length_le (by omega), List.take_of_length_le (by have := HL.out; omega)] at this
          simpa using this
        go_wp2_with fail
        go_ret
        exact ⟨by first | rfl | (rw [hf]; rfl), _, rfl⟩
  · have hne : ((E.length : Int) != (F.length : Int)) = true := by simp; omega
    have hf : (E == F) = false := by simpa using fun h => hlen (congrArg List.length h)
    have HL := Lib.hid hlen
    clear hlen
    go_enter Try.func44, Try.ntmps44
    go_wp2_with fail
    go_ret
    exact ⟨by first | rfl | (rw [hf]; rfl), 0, rfl⟩
end Go.Proofs.Ytkenbmelhfhidaa
