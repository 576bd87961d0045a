/- osierref09.SameTexts, SameAtom and Same: the contracts (of the last two: a query held against itself). -/
import Derived.Test.YtdemmjofggemhaaDoorBQ
import Derived.BigQuiet
import Derived.Deep.QuietTactic
import Derived.Deep.RegionHeld3
namespace Go.Proofs.YtdemmjofggemhaaDoor
open Go.RowKit

theorem take_texts (L : List ByteArray) {k : Nat} (h : k < L.length) : L.take (k + 1) = L.take k ++ [nm L k] := by
  rw [List.take_add_one, List.getElem?_eq_getElem h, nm_eq L k h]; rfl
theorem sameTexts_any (A A' : Option Addr) (L M : List ByteArray) (c c' : Nat) (w : World) (hl : L.length ≤ 35184372087808) (hl' : M.length ≤ 35184372087808) (hL : Rd w w.heap.size A (ss L)) (hM : Rd w w.heap.size A' (ss M)) :
    Calls Tryd.prog 10 #[.slice A L.length c, .slice A' M.length c'] w fun e w' => e = .returned (.bool (decide (L = M))) ∧ Below w.heap.size w w' := by
  by_cases hlen : L.length = M.length
  · have hne : ((L.length : Int) != (M.length : Int)) = false := by simp [hlen]
    have HL := Lib.hid hlen
    clear hlen
    go_enter Tryd.func10, Tryd.ntmps10
    go_wp2_with fail
    go_loopw [5] (fun i wr => ∃ k : Nat, k ≤ L.length ∧ i = .int .i64 k ∧ Hid (L.take k = M.take k) ∧ ∃ n, wr = w.drewN n) (fun i _ => L.length - (intOf i).toNat)
    case atStart => exact ⟨0, Nat.zero_le _, rfl, rfl, 0, rfl⟩
    case round =>
      obtain ⟨k, hk, rfl, heq, n, rfl⟩ := hrel
      by_cases hlt : k < L.length
      · have hlt' : k < M.length := by have := HL.out; omega
        obtain ⟨ad, hA, _, hc⟩ := hL.s_at hlt
        obtain ⟨ad', hA', _, hc'⟩ := hM.s_at hlt'
        subst hA
        subst hA'
        have hs := take_texts L hlt
        have hs' := take_texts M hlt'
        have hat : L = M → nm L k = nm M k := fun h => by subst h; rfl
        generalize nm L k = x at hc hs hat
        generalize nm M k = y at hc' hs' hat
        have HS := Lib.hid hs
        have HS' := Lib.hid hs'
        have HA := Lib.hid hat
        clear hs hs' hat
        have b1 : (0 : Int) ≤ k := by omega
        have b2 : (k : Int) < L.length := by omega
        have b3 : (k : Int) < M.length := by omega
        by_cases hxy : x = y
        · have hb := str_beq x y
          rw [decide_eq_true hxy] at hb
          have hne' : (x.toList != y.toList) = false := by rw [bne, hb]; rfl
          have HX := Lib.hid hxy
          clear hxy
          go_wp2_with fail
          go_quiet (fail)
          go_wp2_with fail
          go_roundw
          case rel => exact ⟨k + 1, by omega, by go_num, by show _ = _; rw [HS.out, HS'.out, heq.out, HX.out], _, rfl⟩
          case measure => simp [intOf]; omega
        · have hb := str_beq x y
          rw [decide_eq_false hxy] at hb
          have hne' : (x.toList != y.toList) = true := by rw [bne, hb]; rfl
          have HD : Hid (decide (L = M) = false) := Lib.hid (decide_eq_false fun e => hxy (HA.out e))
          clear hxy
          go_wp2_with fail
          go_quiet (fail)
          go_wp2_with fail
          go_ret
          exact ⟨congrArg (fun z => Ending.returned (.bool z)) HD.out.symm, below_drewN (below_drewN (Below.refl _ _) n) _⟩
      · obtain rfl : k = L.length := by omega
        have HD : Hid (decide (L = M) = true) := Lib.hid (decide_eq_true (by
          have h1 := heq.out
          rw [List.take_length, List.take_of_length_le (by have := HL.out; omega)] at h1
          exact h1))
        go_wp2_with fail
        go_ret
        exact ⟨congrArg (fun z => Ending.returned (.bool z)) HD.out.symm, below_drewN (Below.refl _ _) n⟩
  · have hne : ((L.length : Int) != (M.length : Int)) = true := by rw [bne_iff_ne]; omega
    have HD : Hid (decide (L = M) = false) := Lib.hid (decide_eq_false fun e => hlen (by rw [e]))
    clear hlen
    go_enter Tryd.func10, Tryd.ntmps10
    go_wp2_with fail
    go_ret
    exact ⟨congrArg (fun z => Ending.returned (.bool z)) HD.out.symm, Below.refl _ _⟩
end Go.Proofs.YtdemmjofggemhaaDoor
