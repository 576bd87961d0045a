/- Several texts in one: SInts PlnPart PlnNode. -/
import Derived.Test.YtdemmjofggemhaaGreatDoorR09Same
import Derived.Test.YtdemmjofggemhaaGreatDoorQFn
import Derived.Test.YtdemmjofggemhaaGreatDoorBC
import Derived.Test.YtdemmjofggemhaaGreatDoorBV
import Derived.Test.YtdemmjofggemhaaGreatDoorBW
import Derived.Test.YtdemmjofggemhaaGreatDoorBL
/- The contracts of slices.Index, Contains, Equal, IndexFunc, ContainsFunc over numbers; of slices.Equal over texts. -/
namespace Go.Proofs.YtdemmjofggemhaaGreatDoor
open Go.RowKit
theorem take_ints (L : List Int) {k : Nat} (h : k < L.length) : L.take (k + 1) = L.take k ++ [pz L k] := by
 rw [List.take_add_one, List.getElem?_eq_getElem h, pz_eq L k h]; rfl
theorem idxInts_any (A : Option Addr) (L : List Int) (c : Nat) (x : Int) (w : World) (hl : L.length ≤ 35184372087808) (hL : Rd w w.heap.size A (is L)) :
  Calls Tryz.prog 106 #[.slice A L.length c, .int .i64 x] w fun e w' => ∃ r : Int, e = .returned (.int .i64 r) ∧ Hid (0 ≤ r ↔ x ∈ L) ∧ w = w' := by
 go_enter Tryz.func106, Tryz.ntmps106
 go_wp2_with fail
 go_loop [5, 8] (fun _ i => ∃ k : Nat, k ≤ L.length ∧ i = .int .i64 k ∧ Hid (x ∉ L.take k)) (fun _ i => L.length - (intOf i).toNat)
 case atStart => exact ⟨0, Nat.zero_le _, rfl, Lib.hid (by simp)⟩
 case round =>
  obtain ⟨k, hk, rfl, hno⟩ := hrel
  by_cases hlt : k < L.length
  ·obtain ⟨ad, hA, _, hc⟩ := hL.p_at hlt
   subst hA
   have b1 : (0 : Int) ≤ k := by omega
   have b2 : (k : Int) < L.length := by omega
   have HN : Hid (¬ x = pz L k → x ∉ L.take (k + 1)) := Lib.hid fun h c => by
    rw [take_ints L hlt] at c
    rcases List.mem_append.1 c with c | c
    ·exact hno.out c
    ·exact h (List.mem_singleton.1 c)
   have HH : Hid (x = pz L k → ((0 : Int) ≤ k ↔ x ∈ L)) := Lib.hid fun h => ⟨fun _ => by rw [h, ← pz_eq L k hlt]; exact List.getElem_mem _, fun _ => b1⟩
   by_cases hx : x = pz L k
   ·have HT := Lib.hid (HH.out hx)
    have hb : (x == pz L k) = true := by simpa using hx
    clear HN HH hx
    generalize pz L k = y at hc hb
    go_wp2_with fail
    go_ret
    exact ⟨_, rfl, HT, by first | rfl | trivial⟩
   ·have HT := Lib.hid (HN.out hx)
    have hb : (x == pz L k) = false := by simpa using hx
    clear HN HH hx hno
    generalize pz L k = y at hc hb
    go_wp2_with fail
    go_round
    case rel => exact ⟨k + 1, by omega, by go_num, HT⟩
    case measure => simp [intOf]; omega
  ·have HT : Hid ((0 : Int) ≤ -1 ↔ x ∈ L) := Lib.hid ⟨fun c => absurd c (by decide), fun c => by
    have := hno.out
    rw [List.take_of_length_le (by omega)] at this
    exact absurd c this⟩
   go_wp2_with fail
   go_ret
   exact ⟨_, rfl, HT, by first | rfl | trivial⟩
theorem hasInts_any (A : Option Addr) (L : List Int) (c : Nat) (x : Int) (w : World) (hl : L.length ≤ 35184372087808) (hL : Rd w w.heap.size A (is L)) :
  Calls Tryz.prog 81 #[.slice A L.length c, .int .i64 x] w fun e w' => e = .returned (.bool (decide (x ∈ L))) ∧ w = w' := by
 have HI := Lib.hid (idxInts_any A L c x w hl hL)
 go_enter Tryz.func81, Tryz.ntmps81
 go_wp2_with fail
 refine HI.out.mono ?_
 rintro e w' ⟨r, rfl, HR, rfl⟩
 have HB : Hid (decide (0 ≤ r) = decide (x ∈ L)) := Lib.hid (by rw [Bool.eq_iff_iff, decide_eq_true_eq, decide_eq_true_eq]; exact HR.out)
 clear HR HI
 go_wp2_with fail
 go_ret
 exact ⟨congrArg (fun z => Ending.returned (.bool z)) HB.out, by first | rfl | trivial⟩
theorem eqInts_any (A A' : Option Addr) (L M : List Int) (c c' : Nat) (w : World) (hl : L.length ≤ 35184372087808) (hl' : M.length ≤ 35184372087808) (hL : Rd w w.heap.size A (is L)) (hM : Rd w w.heap.size A' (is M)) :
  Calls Tryz.prog 79 #[.slice A L.length c, .slice A' M.length c'] w fun e w' => e = .returned (.bool (decide (L = M))) ∧ Below w.heap.size w w' := by
 by_cases hlen : L.length = M.length
 ·have hne : ((L.length : Int) != (M.length : Int)) = false := by simp [hlen]
  have HL := Lib.hid hlen
  clear hlen
  go_enter Tryz.func79, Tryz.ntmps79
  go_wp2_with fail
  go_loopw [5, 13] (fun _ i wr => ∃ k : Nat, k ≤ L.length ∧ i = .int .i64 k ∧ Hid (L.take k = M.take k) ∧ ∃ n, wr = w.drewN n) (fun _ i _ => L.length - (intOf i).toNat)
  case atStart => exact ⟨0, Nat.zero_le _, rfl, rfl, 0, rfl⟩
  case round =>
   obtain ⟨k, hk, rfl, heq, n, rfl⟩ := hrel
   by_cases hlt : k < L.length
   ·have hlt' : k < M.length := by have := HL.out; omega
    obtain ⟨ad, hA, _, hc⟩ := hL.p_at hlt
    obtain ⟨ad', hA', _, hc'⟩ := hM.p_at hlt'
    subst hA
    subst hA'
    have hs := take_ints L hlt
    have hs' := take_ints M hlt'
    have hat : L = M → pz L k = pz M k := fun h => by subst h; rfl
    generalize pz L k = x at hc hs hat
    generalize pz M k = y at hc' hs' hat
    have HS := Lib.hid hs
    have HS' := Lib.hid hs'
    have HA := Lib.hid hat
    clear hs hs' hat
    have b1 : (0 : Int) ≤ k := by omega
    have b2 : (k : Int) < L.length := by omega
    have b3 : (k : Int) < M.length := by omega
    by_cases hxy : x = y
    ·have hne' : (x != y) = false := by simpa using hxy
     have HX := Lib.hid hxy
     clear hxy
     go_wp2_with fail
     go_quiet (fail)
     go_wp2_with fail
     go_roundw
     case rel => exact ⟨k + 1, by omega, by go_num, by show _ = _; rw [HS.out, HS'.out, heq.out, HX.out], _, rfl⟩
     case measure => simp [intOf]; omega
    ·have hne' : (x != y) = true := by simpa using hxy
     have HD : Hid (decide (L = M) = false) := Lib.hid (decide_eq_false fun e => hxy (HA.out e))
     clear hxy
     go_wp2_with fail
     go_quiet (fail)
     go_wp2_with fail
     go_ret
     exact ⟨congrArg (fun z => Ending.returned (.bool z)) HD.out.symm, below_drewN (below_drewN (Below.refl _ _) n) _⟩
   ·obtain rfl : k = L.length := by omega
    have HD : Hid (decide (L = M) = true) := Lib.hid (decide_eq_true (by
     have h1 := heq.out
     rw [List.take_length, List.take_of_length_le (by have := HL.out; omega)] at h1
     exact h1))
    go_wp2_with fail
    go_ret
    exact ⟨congrArg (fun z => Ending.returned (.bool z)) HD.out.symm, below_drewN (Below.refl _ _) n⟩
 ·have hne : ((L.length : Int) != (M.length : Int)) = true := by rw [bne_iff_ne]; omega
  have HD : Hid (decide (L = M) = false) := Lib.hid (decide_eq_false fun e => hlen (by rw [e]))
  clear hlen
  go_enter Tryz.func79, Tryz.ntmps79
  go_wp2_with fail
  go_ret
  exact ⟨congrArg (fun z => Ending.returned (.bool z)) HD.out.symm, Below.refl _ _⟩
set_option maxRecDepth 100000 in
theorem eqStrs_any (A A' : Option Addr) (L M : List ByteArray) (c c' : Nat) (w : World) (hl : L.length ≤ 35184372087808) (hl' : M.length ≤ 35184372087808) (hL : Rd w w.heap.size A (ss L)) (hM : Rd w w.heap.size A' (ss M)) :
  Calls Tryz.prog 47 #[.slice A L.length c, .slice A' M.length c'] w fun e w' => e = .returned (.bool (decide (L = M))) ∧ Below w.heap.size w w' := by
 by_cases hlen : L.length = M.length
 ·have hne : ((L.length : Int) != (M.length : Int)) = false := by simp [hlen]
  have HL := Lib.hid hlen
  clear hlen
  go_enter Tryz.func47, Tryz.ntmps47
  go_wp2_with fail
  go_loopw [5, 13] (fun _ i wr => ∃ k : Nat, k ≤ L.length ∧ i = .int .i64 k ∧ Hid (L.take k = M.take k) ∧ ∃ n, wr = w.drewN n) (fun _ i _ => L.length - (intOf i).toNat)
  case atStart => exact ⟨0, Nat.zero_le _, rfl, rfl, 0, rfl⟩
  case round =>
   obtain ⟨k, hk, rfl, heq, n, rfl⟩ := hrel
   by_cases hlt : k < L.length
   ·have hlt' : k < M.length := by have := HL.out; omega
    obtain ⟨ad, hA, _, hc⟩ := hL.s_at hlt
    obtain ⟨ad', hA', _, hc'⟩ := hM.s_at hlt'
    subst hA
    subst hA'
    have hs := take_texts L hlt
    have hs' := take_texts M hlt'
    have hat : L = M → nm L k = nm M k := fun h => by subst h; rfl
    generalize nm L k = x at hc hs hat
    generalize nm M k = y at hc' hs' hat
    have HS := Lib.hid hs
    have HS' := Lib.hid hs'
    have HA := Lib.hid hat
    clear hs hs' hat
    have b1 : (0 : Int) ≤ k := by omega
    have b2 : (k : Int) < L.length := by omega
    have b3 : (k : Int) < M.length := by omega
    by_cases hxy : x = y
    ·have hb := str_beq x y
     rw [decide_eq_true hxy] at hb
     have hne' : (x.toList != y.toList) = false := by rw [bne, hb]; rfl
     have HX := Lib.hid hxy
     clear hxy
     go_wp2_with fail
     go_quiet (fail)
     go_wp2_with fail
     go_roundw
     case rel => exact ⟨k + 1, by omega, by go_num, by show _ = _; rw [HS.out, HS'.out, heq.out, HX.out], _, rfl⟩
     case measure => simp [intOf]; omega
    ·have hb := str_beq x y
     rw [decide_eq_false hxy] at hb
     have hne' : (x.toList != y.toList) = true := by rw [bne, hb]; rfl
     have HD : Hid (decide (L = M) = false) := Lib.hid (decide_eq_false fun e => hxy (HA.out e))
     clear hxy
     go_wp2_with fail
     go_quiet (fail)
     go_wp2_with fail
     go_ret
     exact ⟨congrArg (fun z => Ending.returned (.bool z)) HD.out.symm, below_drewN (below_drewN (Below.refl _ _) n) _⟩
   ·obtain rfl : k = L.length := by omega
    have HD : Hid (decide (L = M) = true) := Lib.hid (decide_eq_true (by
     have h1 := heq.out
     rw [List.take_length, List.take_of_length_le (by have := HL.out; omega)] at h1
     exact h1))
    go_wp2_with fail
    go_ret
    exact ⟨congrArg (fun z => Ending.returned (.bool z)) HD.out.symm, below_drewN (Below.refl _ _) n⟩
 ·have hne : ((L.length : Int) != (M.length : Int)) = true := by rw [bne_iff_ne]; omega
  have HD : Hid (decide (L = M) = false) := Lib.hid (decide_eq_false fun e => hlen (by rw [e]))
  clear hlen
  go_enter Tryz.func47, Tryz.ntmps47
  go_wp2_with fail
  go_ret
  exact ⟨congrArg (fun z => Ending.returned (.bool z)) HD.out.symm, Below.refl _ _⟩
set_option maxRecDepth 100000 in
theorem indexFn_int (F : FuncId) (caps : Array Value) (p : Nat → Bool) (A : Option Addr) (L : List Int) (c : Nat) (w : World) (hl : L.length ≤ 35184372087808) (hL : Rd w w.heap.size A (is L))
  (hF : ∀ args w, (callFunc F args).run Tryz.prog w = .ok (.enter F args) w)
  (hcall : ∀ k, k < L.length → ∀ (wr : World), Below w.heap.size w wr → Calls Tryz.prog F (#[.int .i64 (pz L k)] ++ caps) wr fun e w' => e = .returned (.bool (p k)) ∧ Below wr.heap.size wr w') :
  Calls Tryz.prog 107 #[.slice A L.length c, .func (.func F) #[] caps] w fun e w' => ∃ r : Int, e = .returned (.int .i64 r) ∧ Hid (IdxAt p L.length r) ∧ Below w.heap.size w w' := by
 go_enter Tryz.func107, Tryz.ntmps107
 go_wp2_with fail
 go_loopw [5, 8] (fun _ i wr => ∃ k : Nat, k ≤ L.length ∧ i = .int .i64 k ∧ Hid (∀ j, j < k → p j = false) ∧ Below w.heap.size w wr) (fun _ i _ => L.length - (intOf i).toNat)
 case atStart => exact ⟨0, Nat.zero_le _, rfl, Lib.hid fun j hj => absurd hj (Nat.not_lt_zero _), Below.refl _ _⟩
 case round =>
  obtain ⟨k, hk, rfl, hno, hb⟩ := hrel
  by_cases hlt : k < L.length
  ·obtain ⟨ad, hA, _, hc⟩ := (hL.later hb).p_at hlt
   subst hA
   have b1 : (0 : Int) ≤ k := by omega
   have b2 : (k : Int) < L.length := by omega
   have HC := Lib.hid (hcall k hlt wr hb)
   have HN : Hid (p k = false → ∀ j, j < k + 1 → p j = false) := Lib.hid fun h j hj => by
    rcases Nat.lt_or_ge j k with d | d
    ·exact hno.out j d
    ·obtain rfl : j = k := by omega
     exact h
   have HH : Hid (p k = true → IdxAt p L.length k) := Lib.hid fun h => .inr ⟨k, rfl, hlt, h⟩
   clear hno hcall
   generalize pz L k = y at hc HC
   cases hp : p k
   ·have HT := Lib.hid (HN.out hp)
    rw [hp] at HC
    clear HN HH hp
    go_wp2_with fail
    refine HC.out.mono ?_
    rintro e w1 ⟨rfl, hb1⟩
    go_wp2_with fail
    go_roundw
    case rel => exact ⟨k + 1, by omega, by go_num, HT, bthen hb hb1⟩
    case measure => simp [intOf]; omega
   ·have HT := Lib.hid (HH.out hp)
    rw [hp] at HC
    clear HN HH hp
    go_wp2_with fail
    refine HC.out.mono ?_
    rintro e w1 ⟨rfl, hb1⟩
    go_wp2_with fail
    go_ret
    exact ⟨_, rfl, HT, bthen hb hb1⟩
  ·have HT : Hid (IdxAt p L.length (-1)) := Lib.hid (.inl ⟨rfl, fun j hj => hno.out j (by omega)⟩)
   go_wp2_with fail
   go_ret
   exact ⟨_, rfl, HT, hb⟩
theorem containsFn_int (F : FuncId) (caps : Array Value) (p : Nat → Bool) (A : Option Addr) (L : List Int) (c : Nat) (w : World) (hl : L.length ≤ 35184372087808) (hL : Rd w w.heap.size A (is L))
  (hF : ∀ args w, (callFunc F args).run Tryz.prog w = .ok (.enter F args) w)
  (hcall : ∀ k, k < L.length → ∀ (wr : World), Below w.heap.size w wr → Calls Tryz.prog F (#[.int .i64 (pz L k)] ++ caps) wr fun e w' => e = .returned (.bool (p k)) ∧ Below wr.heap.size wr w') :
  Calls Tryz.prog 82 #[.slice A L.length c, .func (.func F) #[] caps] w fun e w' => e = .returned (.bool (anyTo p L.length)) ∧ Below w.heap.size w w' := by
 have HI := Lib.hid (indexFn_int F caps p A L c w hl hL hF hcall)
 clear hcall hF hL
 go_enter Tryz.func82, Tryz.ntmps82
 go_wp2_with fail
 refine HI.out.mono ?_
 rintro e w1 ⟨r, rfl, hr, hb⟩
 have HR := Lib.hid (anyTo_of hr.out)
 go_wp2_with fail
 go_ret
 exact ⟨congrArg (fun z => Ending.returned (.bool z)) HR.out, hb⟩
end Go.Proofs.YtdemmjofggemhaaGreatDoor
/- plan.part: do a list's numbers rise, and are they all in another one? -/
set_option linter.unusedSimpArgs false
namespace Go.Proofs.YtdemmjofggemhaaGreatDoor
open Go.RowKit
set_option maxRecDepth 100000 in
set_option maxHeartbeats 4000000 in
theorem plnpart_any (A A' : Option Addr) (a b : List Int) (c c' : Nat) (w : World) (ha : a.length ≤ 35184372087808) (hb : b.length ≤ 35184372087808) (hA : Rd w w.heap.size A (is a)) (hB : Rd w w.heap.size A' (is b)) :
  Calls Tryz.prog 80 #[.slice A a.length c, .slice A' b.length c'] w fun e w' => e = .returned (.bool (partB a b)) ∧ Below w.heap.size w w' := by
 have HIN := Lib.hid (fun (x : Int) (y : World) (hy : Below w.heap.size w y) => hasInts_any A' b c' x y hb (hB.later hy))
 go_enter Tryz.func80, Tryz.ntmps80
 go_wp2_with fail
 go_loopw [5, 6, 9] (fun _ _ i wr => ∃ k : Nat, k ≤ a.length ∧ i = .int .i64 k ∧ Hid (∀ j, j < k → partAt a b j = true) ∧ Below w.heap.size w wr) (fun _ _ i _ => a.length - (intOf i).toNat)
 case atStart => exact ⟨0, Nat.zero_le _, rfl, Lib.hid (fun j hj => absurd hj (Nat.not_lt_zero _)), Below.refl _ _⟩
 case round =>
  obtain ⟨k, hk, rfl, HY, hw⟩ := hrel
  by_cases hlt : k < a.length
  ·obtain ⟨ad, e1, hal, hc⟩ := hA.p_at hlt
   obtain ⟨ad', e1', _, hz⟩ := hA.p_at (k := k - 1) (by omega)
   obtain rfl : ad = ad' := by rw [e1] at e1'; injection e1'
   subst e1
   clear e1'
   have b1 : (0 : Int) ≤ k := by omega
   have b2 : (k : Int) < a.length := by omega
   have HNX := Lib.hid (part_next (b := b) HY.out)
   have HNO := Lib.hid (partB_no (b := b) hlt)
   have HINk := Lib.hid (HIN.out (pz a k))
   have HP := Lib.hid (partAt_iff a b k)
   clear HY HIN
   generalize pz a k = x at hc HINk HP
   generalize pz a (k - 1) = z at hz HP
   generalize partAt a b k = B at HP HNX HNO
   have hcr := (hw.cell (by rw [block_add]; exact hal)).trans hc
   have hzr := (hw.cell (by rw [block_add]; exact hal)).trans hz
   have HIW := Lib.hid (HINk.out wr hw)
   clear hc hz HINk
   by_cases h0 : 0 < k
   ·have g0 : decide ((0 : Int) < k) = true := decide_eq_true (by omega)
    have g0n : decide (0 < k) = true := decide_eq_true h0
    have w1 : IntKind.i64.wrap ((k : Int) - 1) = ((k - 1 : Nat) : Int) := by rw [show (k : Int) - 1 = ((k - 1 : Nat) : Int) by omega]; exact IntWalk.i64_in _ (by omega)
    have b3 : (0 : Int) ≤ ((k - 1 : Nat) : Int) := by omega
    have b4 : ((k - 1 : Nat) : Int) < a.length := by omega
    by_cases hle : x ≤ z
    ·have g1 : decide (x ≤ z) = true := decide_eq_true hle
     have HR := Lib.hid (HNO.out (by rw [Bool.eq_false_iff]; intro c; have := (HP.out.1 c).1 h0; omega))
     clear HP HNX HNO HIW hle h0
     go_wp2_with fail
     go_ret
     exact ⟨congrArg (fun z => Ending.returned (.bool z)) HR.out.symm, hw⟩
    ·have g1 : decide (x ≤ z) = false := decide_eq_false hle
     by_cases hm : x ∈ b
     ·have HR := Lib.hid (HNX.out (HP.out.2 ⟨fun _ => by omega, hm⟩))
      rw [decide_eq_true hm] at HIW
      clear HP HNX HNO hle h0 hm
      go_wp2_with fail
      refine HIW.out.mono ?_
      rintro e wq ⟨rfl, rfl⟩
      go_wp2_with fail
      go_roundw
      case rel => exact ⟨k + 1, by omega, by go_num, HR, hw⟩
      case measure => simp [intOf]; omega
     ·have HR := Lib.hid (HNO.out (by rw [Bool.eq_false_iff]; intro c; exact hm (HP.out.1 c).2))
      rw [decide_eq_false hm] at HIW
      clear HP HNX HNO hle h0 hm
      go_wp2_with fail
      refine HIW.out.mono ?_
      rintro e wq ⟨rfl, rfl⟩
      go_wp2_with fail
      go_ret
      exact ⟨congrArg (fun z => Ending.returned (.bool z)) HR.out.symm, hw⟩
   ·have g0 : decide ((0 : Int) < k) = false := decide_eq_false (by omega)
    have g0n : decide (0 < k) = false := decide_eq_false h0
    by_cases hm : x ∈ b
    ·have HR := Lib.hid (HNX.out (HP.out.2 ⟨fun c => absurd c h0, hm⟩))
     rw [decide_eq_true hm] at HIW
     clear HP HNX HNO h0 hm
     go_wp2_with fail
     refine HIW.out.mono ?_
     rintro e wq ⟨rfl, rfl⟩
     go_wp2_with fail
     go_roundw
     case rel => exact ⟨k + 1, by omega, by go_num, HR, hw⟩
     case measure => simp [intOf]; omega
    ·have HR := Lib.hid (HNO.out (by rw [Bool.eq_false_iff]; intro c; exact hm (HP.out.1 c).2))
     rw [decide_eq_false hm] at HIW
     clear HP HNX HNO h0 hm
     go_wp2_with fail
     refine HIW.out.mono ?_
     rintro e wq ⟨rfl, rfl⟩
     go_wp2_with fail
     go_ret
     exact ⟨congrArg (fun z => Ending.returned (.bool z)) HR.out.symm, hw⟩
  ·obtain rfl : k = a.length := by omega
   have HT := Lib.hid (partB_yes HY.out)
   go_wp2_with fail
   go_ret
   exact ⟨congrArg (fun z => Ending.returned (.bool z)) HT.out.symm, hw⟩
end Go.Proofs.YtdemmjofggemhaaGreatDoor
/- plan.rightNode: properties 2 and 3 of one node. -/
set_option linter.unusedSimpArgs false
namespace Go.Proofs.YtdemmjofggemhaaGreatDoor
open Go.RowKit
set_option maxRecDepth 100000 in
set_option maxHeartbeats 8000000 in
theorem rightnode_any (gp : Nat) (vv vh : Value) (AN : Option Addr) (N : List PNd) (cN : Nat) (rt : Int) (vt : Value) (V : Int) (AE : Option Addr) (E : List (BitVec 32)) (cE : Nat) (i : Nat) (w : World) (hi : i < N.length) (hz : ∀ m ∈ N, m.vars.length ≤ 35184372087808)
  (hP : PRow w gp vv vh AN N.length cN rt vt) (hN : NdR w w.heap.size AN N) (hE : Rd w w.heap.size AE (us E)) (hT : Tab w) :
  Calls Tryz.prog 49 #[.pointer (some ⟨gp, 0, none⟩), .agg #[.int .i64 V, .slice AE E.length cE], .int .i64 i] w (Says (OneOk E N i) w) := by
 have HZ : Hid (∀ k, k < N.length → (nd N k).vars.length ≤ 35184372087808) := Lib.hid fun k hk => hz _ (by rw [← nd_eq N k hk]; exact List.getElem_mem _)
 have HP : Hid (OneOk E N i ↔ (i < E.length → LeafOk E (nd N i) i) ∧ (E.length ≤ i → TrimOk N (nd N i) ∨ MeetOk N (nd N i))) := Lib.hid Iff.rfl
 generalize OneOk E N i = PP at HP ⊢
 clear hz
 go_enter Tryz.func49, Tryz.ntmps49
 go_upto_region 1 with fail
 have hb0 := below_alloc w (.cells #[.int .i64 V, .slice AE E.length cE] 36)
 have hG0 : Row (w.alloc (.cells #[.int .i64 V, .slice AE E.length cE] 36)) w.heap.size 36 [.int .i64 V, .slice AE E.length cE] := Row.new _ _ _
 have hP0 := Row.later hP hb0
 have hN0 := hN.later hb0
 have hE0 := hE.later hb0
 have hT0 := hT.later hb0
 generalize w.alloc _ = w0 at hb0 hP0 hG0 hN0 hE0 hT0 ⊢
 obtain ⟨ad, hA, _, T, cT, hvT, c0, c1, c2, c3, c4, c5, c6⟩ := hN0.cells hi
 subst hA
 have q2 : w0.cell? ⟨gp, 2, none⟩ = some (.slice (some ad) N.length cN) := Row.cell hP0 2
 have a1 : (0 : Int) ≤ i := by omega
 have a2 : (i : Int) < N.length := by omega
 have hzi := HZ.out i hi
 generalize nd N i = x at c0 c1 c2 c3 c4 c5 c6 HP hzi hvT
 obtain ⟨K, at_, vs, sr, sd, pr, tp⟩ := x
 dsimp only at c0 c1 c2 c3 c4 c5 c6 HP hzi hvT
 go_upto_region 2 with fail
 have hb1 := below_alloc w0 (.cells #[.int .i64 K, .int .i64 at_, .slice T vs.length cT, .int .i64 sr, .int .i64 sd, .int .i64 pr, .bool tp] 50)
 have hX1 : Row (w0.alloc (.cells #[.int .i64 K, .int .i64 at_, .slice T vs.length cT, .int .i64 sr, .int .i64 sd, .int .i64 pr, .bool tp] 50)) w0.heap.size 50 [.int .i64 K, .int .i64 at_, .slice T vs.length cT, .int .i64 sr, .int .i64 sd, .int .i64 pr, .bool tp] := Row.new _ _ _
 have hB1 := bthen hb0 hb1
 have hP1 := Row.later hP0 hb1
 have hG1 := hG0.later hb1
 have hN1 := hN0.later hb1
 have hE1 := hE0.later hb1
 have hT1 := hT0.later hb1
 have hvT1 := hvT.later hb1
 generalize w0.heap.size = g at hX1 ⊢
 generalize w0.alloc _ = w1 at hB1 hX1 hP1 hG1 hN1 hE1 hvT1 hT1 ⊢
 clear c0 c1 c2 c3 c4 c5 c6 q2 hb1 hb0 hP0 hG0 hN0 hE0 hT0 hvT hN hE hP hT
 have x0 : w1.cell? ⟨g, 0, none⟩ = some (.int .i64 K) := hX1.cell 0
 have x1 : w1.cell? ⟨g, 1, none⟩ = some (.int .i64 at_) := hX1.cell 1
 have x2 : w1.cell? ⟨g, 2, none⟩ = some (.slice T vs.length cT) := hX1.cell 2
 have x3 : w1.cell? ⟨g, 3, none⟩ = some (.int .i64 sr) := hX1.cell 3
 have x4 : w1.cell? ⟨g, 4, none⟩ = some (.int .i64 sd) := hX1.cell 4
 have y1 : w1.cell? ⟨w.heap.size, 1, none⟩ = some (.slice AE E.length cE) := hG1.cell 1
 have p2 : w1.cell? ⟨gp, 2, none⟩ = some (.slice (some ad) N.length cN) := Row.cell hP1 2
 by_cases hle : i < E.length
 ·have HL : Hid (PP ↔ K = 1 ∧ at_ = i ∧ vs = lst (ed E i) ∧ sr = 0 ∧ sd = 0) := Lib.hid (by rw [HP.out]; exact ⟨fun h => h.1 hle, fun h => ⟨fun _ => h, fun c => absurd c (by omega)⟩⟩)
  obtain ⟨ae, hAE, hael, ce⟩ := hE1.e_at hle
  subst hAE
  have b2 : (i : Int) < E.length := by omega
  have HLI := Lib.hid (fun (y : World) (hy : Below w1.heap.size w1 y) => list_any (ed E i) y (hT1.later hy))
  have hll := lst_len (ed E i)
  generalize ed E i = e at ce HL HLI hll
  have HK : Hid (∀ y, Below w1.heap.size w1 y → Below w1.heap.size w1 y ∧ y.cell? ⟨g, 0, none⟩ = some (.int .i64 K) ∧ y.cell? ⟨g, 1, none⟩ = some (.int .i64 at_) ∧ y.cell? ⟨g, 2, none⟩ = some (.slice T vs.length cT) ∧ y.cell? ⟨g, 3, none⟩ = some (.int .i64 sr) ∧ y.cell? ⟨g, 4, none⟩ = some (.int .i64 sd) ∧ y.cell? ⟨w.heap.size, 1, none⟩ = some (.slice (some ae) E.length cE) ∧ y.cell? (ae.add i) = some (.int .u32 (uz e))) := Lib.hid fun y hy => ⟨hy, (hX1.later hy).cell 0, (hX1.later hy).cell 1, (hX1.later hy).cell 2, (hX1.later hy).cell 3, (hX1.later hy).cell 4, (hG1.later hy).cell 1, (hy.cell (by rw [block_add]; exact hael)).trans ce⟩
  have HSI := Lib.hid (fun (y : World) (A2 : Option Addr) (n2 : Nat) hy (h2 : Rd y y.heap.size A2 (is (lst e))) => eqInts_any T A2 vs (lst e) cT n2 y hzi (by omega) (hvT1.later hy) h2)
  clear HP hX1 hG1 hE1 hP1 hN1 HZ ce hvT1 p2
  go_upto_region 3 with fail
  refine wp_region_held_drew (S := (fun y : World => Below w1.heap.size w1 y ∧ y.cell? ⟨g, 0, none⟩ = some (.int .i64 K) ∧ y.cell? ⟨g, 1, none⟩ = some (.int .i64 at_) ∧ y.cell? ⟨g, 2, none⟩ = some (.slice T vs.length cT) ∧ y.cell? ⟨g, 3, none⟩ = some (.int .i64 sr) ∧ y.cell? ⟨g, 4, none⟩ = some (.int .i64 sd) ∧ y.cell? ⟨w.heap.size, 1, none⟩ = some (.slice (some ae) E.length cE) ∧ y.cell? (ae.add i) = some (.int .u32 (uz e)))) (by kernel_rfl) (HK.out _ (Below.refl _ _).drew) (fun hHeld => ?_)
  refine kY 0 hHeld ?_
  simp only [Act.put, k0, k1, k2]
  refine kY 1 hHeld ?_
  simp only [Act.put, k0, k1, k2]
  refine kY 2 hHeld ?_
  simp only [Act.put, k0, k1, k2]
  by_cases q23 : K = 1
  ·obtain ⟨d23, e23, f23⟩ := ceT q23
   have H23 := Lib.hid q23; clear q23; try simp only [d23, e23, f23]
   refine kY 3 hHeld ?_
   simp only [Act.put, k0, k1, k2]
   refine kY 4 hHeld ?_
   simp only [Act.put, k0, k1, k2]
   refine kY 5 hHeld ?_
   simp only [Act.put, k0, k1, k2]
   refine kY 6 hHeld ?_
   simp only [Act.put, k0, k1, k2]
   refine kY 7 hHeld ?_
   simp only [Act.put, k0, k1, k2]
   by_cases q28 : at_ = (i : Int)
   ·obtain ⟨d28, e28, f28⟩ := ceT q28
    have H28 := Lib.hid q28; clear q28; try simp only [d28, e28, f28]
    refine kY 8 hHeld ?_
    simp only [Act.put, k0, k1, k2]
    refine kY 9 hHeld ?_
    simp only [Act.put, k0, k1, k2]
    refine kY 10 hHeld ?_
    simp only [Act.put, k0, k1, k2]
    refine kY 11 hHeld ?_
    simp only [Act.put, k0, k1, k2]
    refine kY 12 hHeld ?_
    simp only [Act.put, k0, k1, k2]
    refine kY 13 hHeld ?_
    simp only [Act.put, k0, k1, k2]
    refine kY 14 hHeld ?_
    simp only [Act.put, k0, k1, k2]
    refine kY 15 hHeld ?_
    simp only [Act.put, k0, k1, k2]
    refine kY 16 hHeld ?_
    simp only [Act.put, k0, k1, k2]
    refine kC 17 rfl (by kernel_rfl) (fun K hK => ?_)
    go_simp
    go_at_call 22
    refine (HLI.out _ hHeld.1).mono ?_
    rintro e2 wq ⟨v2, rfl, ho2, hbq⟩
    have hbq2 := bthen hHeld.1 hbq
    obtain ⟨A2, n2, rfl, _, _, hR2, _⟩ := Rd.of_own ho2
    clear ho2
    go_wp2_with fail
    refine hK.out _ _ (HK.out _ hbq2) (fun hNew => ?_)
    clear hK K hHeld; have hHeld := hNew; clear hNew
    try simp only [Act.put, k0, k1, k2]
    refine kC 18 rfl (by kernel_rfl) (fun K hK => ?_)
    go_simp
    go_at_call 79
    refine (HSI.out _ A2 n2 hHeld.1 hR2).mono ?_
    rintro e2 wq ⟨rfl, hbq3⟩
    have hbq4 := bthen hHeld.1 hbq3
    go_wp2_with fail
    refine hK.out _ _ (HK.out _ hbq4) (fun hNew => ?_)
    clear hK K hHeld; have hHeld := hNew; clear hNew
    try simp only [Act.put, k0, k1, k2]
    by_cases q39 : vs = lst e
    ·obtain ⟨d39, e39, f39⟩ := ceT q39
     have H39 := Lib.hid q39; clear q39; try simp only [d39, e39, f39]
     refine kY 19 hHeld ?_
     simp only [Act.put, k0, k1, k2]
     refine kY 20 hHeld ?_
     simp only [Act.put, k0, k1, k2]
     refine kY 21 hHeld ?_
     simp only [Act.put, k0, k1, k2]
     refine kY 22 hHeld ?_
     simp only [Act.put, k0, k1, k2]
     refine kY 23 hHeld ?_
     simp only [Act.put, k0, k1, k2]
     by_cases q44 : sr = 0
     ·obtain ⟨d44, e44, f44⟩ := ceT q44
      have H44 := Lib.hid q44; clear q44; try simp only [d44, e44, f44]
      refine kY 24 hHeld ?_
      simp only [Act.put, k0, k1, k2]
      refine kY 25 hHeld ?_
      simp only [Act.put, k0, k1, k2]
      refine kY 26 hHeld ?_
      simp only [Act.put, k0, k1, k2]
      refine kY 27 hHeld ?_
      simp only [Act.put, k0, k1, k2]
      refine kY 28 hHeld ?_
      simp only [Act.put, k0, k1, k2]
      by_cases q49 : sd = 0
      ·obtain ⟨d49, e49, f49⟩ := ceT q49
       have H49 := Lib.hid q49; clear q49; try simp only [d49, e49, f49]
       refine kY 29 hHeld ?_
       simp only [Act.put, k0, k1, k2]
       refine kY 30 hHeld ?_
       simp only [Act.put, k0, k1, k2]
       refine wpAnyH_done (by kernel_rfl) ?_ _
       have HR := Lib.hid HL.out
       go_wp2_with fail
       go_ret
       exact ⟨_, rfl, Lib.hid (by rw [HR.out]; simp [eq_true H23.out, eq_true H28.out, eq_true H39.out, eq_true H44.out, eq_true H49.out]), bthen hB1 hHeld.1⟩
      ·obtain ⟨d49, e49, f49⟩ := ceF q49
       have H49 := Lib.hid q49; clear q49; try simp only [d49, e49, f49]
       refine kY 29 hHeld ?_
       simp only [Act.put, k0, k1, k2]
       refine kY 30 hHeld ?_
       simp only [Act.put, k0, k1, k2]
       refine wpAnyH_done (by kernel_rfl) ?_ _
       have HR := Lib.hid HL.out
       go_wp2_with fail
       go_ret
       exact ⟨_, rfl, Lib.hid (by rw [HR.out]; simp [eq_true H23.out, eq_true H28.out, eq_true H39.out, eq_true H44.out, eq_false H49.out]), bthen hB1 hHeld.1⟩
     ·obtain ⟨d44, e44, f44⟩ := ceF q44
      have H44 := Lib.hid q44; clear q44; try simp only [d44, e44, f44]
      refine kY 24 hHeld ?_
      simp only [Act.put, k0, k1, k2]
      refine kY 25 hHeld ?_
      simp only [Act.put, k0, k1, k2]
      refine kN 2 [(26, 47), (27, 48), (28, 49)] rfl (by kernel_rfl) (fun _ _ _ _ h => h) hHeld ?_
      simp only [k3, k4, Act.put, k0, k1, k2]
      refine kY 29 hHeld ?_
      simp only [Act.put, k0, k1, k2]
      refine kY 30 hHeld ?_
      simp only [Act.put, k0, k1, k2]
      refine wpAnyH_done (by kernel_rfl) ?_ _
      have HR := Lib.hid HL.out
      go_wp2_with fail
      go_ret
      exact ⟨_, rfl, Lib.hid (by rw [HR.out]; simp [eq_true H23.out, eq_true H28.out, eq_true H39.out, eq_false H44.out]), bthen hB1 hHeld.1⟩
    ·obtain ⟨d39, e39, f39⟩ := ceF q39
     have H39 := Lib.hid q39; clear q39; try simp only [d39, e39, f39]
     refine kY 19 hHeld ?_
     simp only [Act.put, k0, k1, k2]
     refine kY 20 hHeld ?_
     simp only [Act.put, k0, k1, k2]
     refine kN 7 [(21, 42), (22, 43), (23, 44)] rfl (by kernel_rfl) (fun _ _ _ _ h => h) hHeld ?_
     simp only [k3, k4, Act.put, k0, k1, k2]
     refine kY 24 hHeld ?_
     simp only [Act.put, k0, k1, k2]
     refine kY 25 hHeld ?_
     simp only [Act.put, k0, k1, k2]
     refine kN 2 [(26, 47), (27, 48), (28, 49)] rfl (by kernel_rfl) (fun _ _ _ _ h => h) hHeld ?_
     simp only [k3, k4, Act.put, k0, k1, k2]
     refine kY 29 hHeld ?_
     simp only [Act.put, k0, k1, k2]
     refine kY 30 hHeld ?_
     simp only [Act.put, k0, k1, k2]
     refine wpAnyH_done (by kernel_rfl) ?_ _
     have HR := Lib.hid HL.out
     go_wp2_with fail
     go_ret
     exact ⟨_, rfl, Lib.hid (by rw [HR.out]; simp [eq_true H23.out, eq_true H28.out, eq_false H39.out]), bthen hB1 hHeld.1⟩
   ·obtain ⟨d28, e28, f28⟩ := ceF q28
    have H28 := Lib.hid q28; clear q28; try simp only [d28, e28, f28]
    refine kY 8 hHeld ?_
    simp only [Act.put, k0, k1, k2]
    refine kY 9 hHeld ?_
    simp only [Act.put, k0, k1, k2]
    refine kN 12 [(10, 31), (11, 32), (12, 33), (13, 34), (14, 35), (15, 36), (16, 37), (17, 38), (18, 39)] rfl (by kernel_rfl) (fun _ _ _ _ h => h) hHeld ?_
    simp only [k3, k4, Act.put, k0, k1, k2]
    refine kY 19 hHeld ?_
    simp only [Act.put, k0, k1, k2]
    refine kY 20 hHeld ?_
    simp only [Act.put, k0, k1, k2]
    refine kN 7 [(21, 42), (22, 43), (23, 44)] rfl (by kernel_rfl) (fun _ _ _ _ h => h) hHeld ?_
    simp only [k3, k4, Act.put, k0, k1, k2]
    refine kY 24 hHeld ?_
    simp only [Act.put, k0, k1, k2]
    refine kY 25 hHeld ?_
    simp only [Act.put, k0, k1, k2]
    refine kN 2 [(26, 47), (27, 48), (28, 49)] rfl (by kernel_rfl) (fun _ _ _ _ h => h) hHeld ?_
    simp only [k3, k4, Act.put, k0, k1, k2]
    refine kY 29 hHeld ?_
    simp only [Act.put, k0, k1, k2]
    refine kY 30 hHeld ?_
    simp only [Act.put, k0, k1, k2]
    refine wpAnyH_done (by kernel_rfl) ?_ _
    have HR := Lib.hid HL.out
    go_wp2_with fail
    go_ret
    exact ⟨_, rfl, Lib.hid (by rw [HR.out]; simp [eq_true H23.out, eq_false H28.out]), bthen hB1 hHeld.1⟩
  ·obtain ⟨d23, e23, f23⟩ := ceF q23
   have H23 := Lib.hid q23; clear q23; try simp only [d23, e23, f23]
   refine kY 3 hHeld ?_
   simp only [Act.put, k0, k1, k2]
   refine kN 23 [(4, 25), (5, 26), (6, 27), (7, 28)] rfl (by kernel_rfl) (fun _ _ _ _ h => h) hHeld ?_
   simp only [k3, k4, Act.put, k0, k1, k2]
   refine kY 8 hHeld ?_
   simp only [Act.put, k0, k1, k2]
   refine kY 9 hHeld ?_
   simp only [Act.put, k0, k1, k2]
   refine kN 12 [(10, 31), (11, 32), (12, 33), (13, 34), (14, 35), (15, 36), (16, 37), (17, 38), (18, 39)] rfl (by kernel_rfl) (fun _ _ _ _ h => h) hHeld ?_
   simp only [k3, k4, Act.put, k0, k1, k2]
   refine kY 19 hHeld ?_
   simp only [Act.put, k0, k1, k2]
   refine kY 20 hHeld ?_
   simp only [Act.put, k0, k1, k2]
   refine kN 7 [(21, 42), (22, 43), (23, 44)] rfl (by kernel_rfl) (fun _ _ _ _ h => h) hHeld ?_
   simp only [k3, k4, Act.put, k0, k1, k2]
   refine kY 24 hHeld ?_
   simp only [Act.put, k0, k1, k2]
   refine kY 25 hHeld ?_
   simp only [Act.put, k0, k1, k2]
   refine kN 2 [(26, 47), (27, 48), (28, 49)] rfl (by kernel_rfl) (fun _ _ _ _ h => h) hHeld ?_
   simp only [k3, k4, Act.put, k0, k1, k2]
   refine kY 29 hHeld ?_
   simp only [Act.put, k0, k1, k2]
   refine kY 30 hHeld ?_
   simp only [Act.put, k0, k1, k2]
   refine wpAnyH_done (by kernel_rfl) ?_ _
   have HR := Lib.hid HL.out
   go_wp2_with fail
   go_ret
   exact ⟨_, rfl, Lib.hid (by rw [HR.out]; simp [eq_false H23.out]), bthen hB1 hHeld.1⟩
 ·have HM : Hid (PP ↔ TrimOk N ⟨K, at_, vs, sr, sd, pr, tp⟩ ∨ MeetOk N ⟨K, at_, vs, sr, sd, pr, tp⟩) := Lib.hid (by rw [HP.out]; exact ⟨fun h => h.2 (by omega), fun h => ⟨fun c => absurd c hle, fun _ => h⟩⟩)
  have b2 : decide ((i : Int) < E.length) = false := decide_eq_false (by omega)
  have b2n : decide (i < E.length) = false := decide_eq_false hle
  clear HP hE1
  have NO2 : Hid (at_ ≠ 0 ∨ inN N sr = false → ¬ PP) := Lib.hid fun h c => by
   rcases HM.out.1 c with q | q <;> rcases h with h | h
   ·exact h q.2.1
   ·have := q.2.2.1; rw [show (⟨K, at_, vs, sr, sd, pr, tp⟩ : PNd).source = sr from rfl, h] at this; cases this
   ·exact h q.2.1
   ·have := q.2.2.1; rw [show (⟨K, at_, vs, sr, sd, pr, tp⟩ : PNd).source = sr from rfl, h] at this; cases this
  by_cases hat : at_ = 0
  ·have HIS := Lib.hid (isNode_any gp (some ad) N.length cN sr w1 p2)
   cases hin : inN N sr
   ·have HQ := NO2.out (.inr hin)
    rw [show (decide (0 ≤ sr) && decide (sr < (N.length : Int))) = false from hin] at HIS
    clear NO2 HM HZ hin hN1
    subst hat
    go_wp2_with fail
    refine HIS.out.mono ?_
    rintro e2 w2 ⟨rfl, rfl⟩
    go_wp2_with fail
    go_ret
    exact says_no HQ hB1
   ·obtain ⟨s, hs, hsN⟩ := inN_iff.1 hin
    subst hs
    subst hat
    rw [show (decide (0 ≤ (s : Int)) && decide ((s : Int) < (N.length : Int))) = true from hin] at HIS
    obtain ⟨u, hu⟩ : ∃ u, (nd N s).vars = u := ⟨_, rfl⟩
    have hvr : vrs N (s : Int) = u := by unfold vrs; rw [Int.toNat_natCast]; exact hu
    have hzu : u.length ≤ 35184372087808 := by rw [← hu]; exact HZ.out s hsN
    have s1 : (0 : Int) ≤ s := by omega
    have s2 : (s : Int) < N.length := by omega
    obtain ⟨ad2, hA2, hal2, T2, cT2, hvu, _, _, d2, _⟩ := hN1.cells hsN
    injection hA2 with hA2
    subst hA2
    rw [hu] at d2 hvu
    have HPI := Lib.hid hvr
    clear NO2 hvr hu
    go_wp2_with fail
    refine HIS.out.mono ?_
    rintro e2 w2 ⟨rfl, rfl⟩
    go_upto_region 6 with fail
    have HK6 : Hid (∀ y, Below w1.heap.size w1 y → Below w1.heap.size w1 y ∧ y.cell? ⟨gp, 2, none⟩ = some (.slice (some ad) N.length cN) ∧ y.cell? ⟨g, 3, none⟩ = some (.int .i64 s) ∧ y.cell? ⟨(ad.add (s * 7)).block, (ad.add (s * 7)).off + 2, none⟩ = some (.slice T2 u.length cT2)) := Lib.hid fun y hy => ⟨hy, Row.cell (Row.later hP1 hy) 2, (hX1.later hy).cell 3, (hy.cell (by rw [block_add]; exact hal2)).trans d2⟩
    have hwd := HK6.out _ (Below.refl _ _).drew
    clear HIS x0 x1 x2 x3 x4 y1 p2 d2 HK6
    refine wp_region_held_drew (S := (fun y : World => Below w1.heap.size w1 y ∧ y.cell? ⟨gp, 2, none⟩ = some (.slice (some ad) N.length cN) ∧ y.cell? ⟨g, 3, none⟩ = some (.int .i64 s) ∧ y.cell? ⟨(ad.add (s * 7)).block, (ad.add (s * 7)).off + 2, none⟩ = some (.slice T2 u.length cT2))) (by kernel_rfl) hwd (fun hHeld => ?_)
    refine kY 0 hHeld ?_
    simp only [Act.put, k0, k1, k2]
    refine kY 1 hHeld ?_
    simp only [Act.put, k0, k1, k2]
    refine kY 2 hHeld ?_
    simp only [Act.put, k0, k1, k2]
    refine kY 3 hHeld ?_
    simp only [Act.put, k0, k1, k2]
    refine kY 4 hHeld ?_
    simp only [Act.put, k0, k1, k2]
    refine kY 5 hHeld ?_
    simp only [Act.put, k0, k1, k2]
    refine kY 6 hHeld ?_
    simp only [Act.put, k0, k1, k2]
    refine kY 7 hHeld ?_
    simp only [Act.put, k0, k1, k2]
    refine kY 8 hHeld ?_
    simp only [Act.put, k0, k1, k2]
    refine kY 9 hHeld ?_
    simp only [Act.put, k0, k1, k2]
    refine wpAnyH_done (by kernel_rfl) ?_ _
    have hb2 := hHeld.1
    clear hHeld hwd
    have hB2 := bthen hB1 hb2
    have hX2 := hX1.later hb2
    have hP2 := Row.later hP1 hb2
    have hN2 := hN1.later hb2
    have hvT2 := hvT1.later hb2
    have hvu2 := hvu.later hb2
    generalize w1.drew = w2 at hb2 hB2 hX2 hP2 hN2 hvT2 hvu2 ⊢
    clear hb2 hB1 hX1 hP1 hN1 hvT1 hvu hG1 hT1
    have z0 : w2.cell? ⟨g, 0, none⟩ = some (.int .i64 K) := hX2.cell 0
    have z2 : w2.cell? ⟨g, 2, none⟩ = some (.slice T vs.length cT) := hX2.cell 2
    have z4 : w2.cell? ⟨g, 4, none⟩ = some (.int .i64 sd) := hX2.cell 4
    have r2 : w2.cell? ⟨gp, 2, none⟩ = some (.slice (some ad) N.length cN) := Row.cell hP2 2
    by_cases hK2 : K = 2
    ·subst hK2
     have HT : Hid (PP ↔ sd = 0 ∧ partB vs u = true ∧ vs.length < u.length) := Lib.hid (by
      rw [HM.out]
      constructor
      ·rintro (⟨_, _, _, q1, q2, q3⟩ | q)
       ·exact ⟨q1, HPI.out ▸ q2, HPI.out ▸ q3⟩
       ·exact absurd (show (2 : Int) = 3 from q.1) (by decide)
      ·rintro ⟨q1, q2, q3⟩
       exact .inl ⟨rfl, rfl, hin, q1, HPI.out.symm ▸ q2, HPI.out.symm ▸ q3⟩)
     have HPA := Lib.hid (plnpart_any T T2 vs u cT cT2 w2 hzi hzu hvT2 hvu2)
     clear HM hin HPI HZ
     by_cases hsd : sd = 0
     ·subst hsd
      cases hpb : partB vs u
      ·have HQ : Hid (¬ PP) := Lib.hid fun c => by have := (HT.out.1 c).2.1; rw [hpb] at this; cases this
       rw [hpb] at HPA
       clear HT hpb
       go_wp2_with fail
       refine HPA.out.mono ?_
       rintro e3 w3 ⟨rfl, hb3⟩
       go_wp2_with fail
       go_ret
       exact says_no HQ.out (bthen hB2 hb3)
      ·have HQ : Hid (PP ↔ vs.length < u.length) := Lib.hid (by rw [HT.out, hpb]; simp)
       rw [hpb] at HPA
       clear HT hpb
       go_wp2_with fail
       refine HPA.out.mono ?_
       rintro e3 w3 ⟨rfl, hb3⟩
       have z2' : w3.cell? ⟨g, 2, none⟩ = some (.slice T vs.length cT) := (hX2.later hb3).cell 2
       by_cases hlu : vs.length < u.length
       ·have g1 : decide ((vs.length : Int) < u.length) = true := decide_eq_true (by omega)
        have g2 : decide (vs.length < u.length) = true := decide_eq_true hlu
        have HR := Lib.hid (HQ.out.2 hlu)
        clear HQ hlu
        go_wp2_with fail
        go_ret
        exact ⟨_, rfl, Lib.hid ⟨fun _ => HR.out, fun _ => by first | rfl | simp [g2]⟩, bthen hB2 hb3⟩
       ·have g1 : decide ((vs.length : Int) < u.length) = false := decide_eq_false (by omega)
        have g2 : decide (vs.length < u.length) = false := decide_eq_false hlu
        have HR : Hid (¬ PP) := Lib.hid fun c => hlu (HQ.out.1 c)
        clear HQ hlu
        go_wp2_with fail
        go_ret
        exact ⟨_, rfl, Lib.hid ⟨fun c => by first | exact Bool.noConfusion c | simp [g2] at c, fun c => absurd c HR.out⟩, bthen hB2 hb3⟩
     ·have HQ : Hid (¬ PP) := Lib.hid fun c => hsd (HT.out.1 c).1
      obtain ⟨f1, f2, f3⟩ := ceF hsd
      clear HT HPA hsd
      go_wp2_with fail
      go_ret
      exact says_no HQ.out hB2
    ·obtain ⟨k1, k2, k3⟩ := ceF hK2
     by_cases hK3 : K = 3
     ·have HT : Hid (PP ↔ inN N sd = true ∧ vs = u ∧ partB vs vs = true ∧ partB (vrs N sd) vs = true) := Lib.hid (by
       rw [HM.out]
       constructor
       ·rintro (q | ⟨_, _, _, q1, q2, q3, q4⟩)
        ·exact absurd q.1 hK2
        ·exact ⟨q1, (show vs = vrs N (s : Int) from q2).trans HPI.out, q3, q4⟩
       ·rintro ⟨q1, q2, q3, q4⟩
        exact .inr ⟨hK3, rfl, hin, q1, q2.trans HPI.out.symm, q3, q4⟩)
      have HSI := Lib.hid (fun (y : World) hy => eqInts_any T T2 vs u cT cT2 y hzi hzu (hvT2.later hy) (hvu2.later hy))
      obtain ⟨b1, hb1⟩ : ∃ b, partB vs vs = b := ⟨_, rfl⟩
      have HB1 : Hid (b1 = true ↔ partB vs vs = true) := Lib.hid (by rw [hb1])
      have HPV := Lib.hid (fun (y : World) hy => plnpart_any T T vs vs cT cT y hzi hzi (hvT2.later hy) (hvT2.later hy))
      rw [hb1] at HPV
      have HI2 := Lib.hid (fun (y : World) (hy : y.cell? ⟨gp, 2, none⟩ = some (.slice (some ad) N.length cN)) => isNode_any gp (some ad) N.length cN sd y hy)
      clear HM hin HPI hb1
      subst hK3
      clear hK2 k1 k2 k3
      cases hin2 : inN N sd
      ·have HQ : Hid (¬ PP) := Lib.hid fun c => by have := (HT.out.1 c).1; rw [hin2] at this; cases this
       rw [show (decide (0 ≤ sd) && decide (sd < (N.length : Int))) = false from hin2] at HI2
       have HK : Hid (∀ y, Below w2.heap.size w2 y → Below w2.heap.size w2 y ∧ y.cell? ⟨g, 4, none⟩ = some (.int .i64 sd) ∧ y.cell? ⟨gp, 2, none⟩ = some (.slice (some ad) N.length cN)) := Lib.hid fun y hy => ⟨hy, (hX2.later hy).cell 4, Row.cell (Row.later hP2 hy) 2⟩
       clear HT HSI HPV HB1 hX2 hP2 hN2 hin2 hvT2 hvu2 HZ
       go_upto_region 11 with fail
       refine wp_region_held_drew (S := (fun y : World => Below w2.heap.size w2 y ∧ y.cell? ⟨g, 4, none⟩ = some (.int .i64 sd) ∧ y.cell? ⟨gp, 2, none⟩ = some (.slice (some ad) N.length cN))) (by kernel_rfl) (HK.out _ (Below.refl _ _).drew) (fun hHeld => ?_)
       refine kY 0 hHeld ?_
       simp only [Act.put, k0, k1, k2]
       refine kY 1 hHeld ?_
       simp only [Act.put, k0, k1, k2]
       refine kY 2 hHeld ?_
       simp only [Act.put, k0, k1, k2]
       refine kC 3 rfl (by kernel_rfl) (fun K hK => ?_)
       go_simp
       go_at_call 48
       refine (HI2.out _ hHeld.2.2).mono ?_
       rintro e2 wq ⟨rfl, rfl⟩
       go_wp2_with fail
       refine hK.out _ _ hHeld (fun hNew => ?_)
       clear hK K hHeld; have hHeld := hNew; clear hNew
       try simp only [Act.put, k0, k1, k2]
       refine kY 4 hHeld ?_
       simp only [Act.put, k0, k1, k2]
       refine kN 23 [(5, 98), (6, 99), (7, 100), (8, 101)] rfl (by kernel_rfl) (fun _ _ _ _ h => h) hHeld ?_
       simp only [k3, k4, Act.put, k0, k1, k2]
       refine kY 9 hHeld ?_
       simp only [Act.put, k0, k1, k2]
       refine kY 10 hHeld ?_
       simp only [Act.put, k0, k1, k2]
       refine kN 16 [(11, 104), (12, 105), (13, 106), (14, 107), (15, 108)] rfl (by kernel_rfl) (fun _ _ _ _ h => h) hHeld ?_
       simp only [k3, k4, Act.put, k0, k1, k2]
       refine kY 16 hHeld ?_
       simp only [Act.put, k0, k1, k2]
       refine kY 17 hHeld ?_
       simp only [Act.put, k0, k1, k2]
       refine kN 2 [(18, 111), (19, 112), (20, 113), (21, 114), (22, 115), (23, 116), (24, 117), (25, 118), (26, 119), (27, 120), (28, 121), (29, 122)] rfl (by kernel_rfl) (fun _ _ _ _ h => h) hHeld ?_
       simp only [k3, k4, Act.put, k0, k1, k2]
       refine kY 30 hHeld ?_
       simp only [Act.put, k0, k1, k2]
       refine kY 31 hHeld ?_
       simp only [Act.put, k0, k1, k2]
       refine wpAnyH_done (by kernel_rfl) ?_ _
       go_wp2_with fail
       go_ret
       exact says_no HQ.out (bthen hB2 hHeld.1)
      ·obtain ⟨m, hm, hmN⟩ := inN_iff.1 hin2
       subst hm
       rw [show (decide (0 ≤ (m : Int)) && decide ((m : Int) < (N.length : Int))) = true from hin2] at HI2
       obtain ⟨ad3, hA3, hal3, T3, cT3, hv3, _, _, e2', _⟩ := hN2.cells hmN
       injection hA3 with hA3
       subst hA3
       have hz3 := HZ.out m hmN
       have HQ : Hid (PP ↔ vs = u ∧ partB vs vs = true ∧ partB (nd N m).vars vs = true) := Lib.hid (by
        rw [HT.out, hin2]
        unfold vrs
        rw [Int.toNat_natCast]; simp)
       generalize (nd N m).vars = um at e2' hv3 hz3 HQ
       obtain ⟨b2, hb2⟩ : ∃ b, partB um vs = b := ⟨_, rfl⟩
       have HB2 : Hid (b2 = true ↔ partB um vs = true) := Lib.hid (by rw [hb2])
       have HPU := Lib.hid (fun (y : World) hy => plnpart_any T3 T um vs cT3 cT y hz3 hzi (hv3.later hy) (hvT2.later hy))
       rw [hb2] at HPU
       have HK : Hid (∀ y, Below w2.heap.size w2 y → Below w2.heap.size w2 y ∧ y.cell? ⟨g, 2, none⟩ = some (.slice T vs.length cT) ∧ y.cell? ⟨g, 4, none⟩ = some (.int .i64 m) ∧ y.cell? ⟨gp, 2, none⟩ = some (.slice (some ad) N.length cN) ∧ y.cell? ⟨(ad.add (m * 7)).block, (ad.add (m * 7)).off + 2, none⟩ = some (.slice T3 um.length cT3)) := Lib.hid fun y hy => ⟨hy, (hX2.later hy).cell 2, (hX2.later hy).cell 4, Row.cell (Row.later hP2 hy) 2, (hy.cell (by rw [block_add]; exact hal3)).trans e2'⟩
       have m1 : (0 : Int) ≤ m := by omega
       have m2 : (m : Int) < N.length := by omega
       clear HT hX2 hP2 hN2 hin2 hvT2 hvu2 HZ e2' hv3 hz3 hb2
       go_upto_region 11 with fail
       refine wp_region_held_drew (S := (fun y : World => Below w2.heap.size w2 y ∧ y.cell? ⟨g, 2, none⟩ = some (.slice T vs.length cT) ∧ y.cell? ⟨g, 4, none⟩ = some (.int .i64 m) ∧ y.cell? ⟨gp, 2, none⟩ = some (.slice (some ad) N.length cN) ∧ y.cell? ⟨(ad.add (m * 7)).block, (ad.add (m * 7)).off + 2, none⟩ = some (.slice T3 um.length cT3))) (by kernel_rfl) (HK.out _ (Below.refl _ _).drew) (fun hHeld => ?_)
       refine kY 0 hHeld ?_
       simp only [Act.put, k0, k1, k2]
       refine kY 1 hHeld ?_
       simp only [Act.put, k0, k1, k2]
       refine kY 2 hHeld ?_
       simp only [Act.put, k0, k1, k2]
       refine kC 3 rfl (by kernel_rfl) (fun K hK => ?_)
       go_simp
       go_at_call 48
       refine (HI2.out _ hHeld.2.2.2.1).mono ?_
       rintro e2 wq ⟨rfl, rfl⟩
       go_wp2_with fail
       refine hK.out _ _ hHeld (fun hNew => ?_)
       clear hK K hHeld; have hHeld := hNew; clear hNew
       try simp only [Act.put, k0, k1, k2]
       refine kY 4 hHeld ?_
       simp only [Act.put, k0, k1, k2]
       refine kY 5 hHeld ?_
       simp only [Act.put, k0, k1, k2]
       refine kY 6 hHeld ?_
       simp only [Act.put, k0, k1, k2]
       refine kY 7 hHeld ?_
       simp only [Act.put, k0, k1, k2]
       refine kC 8 rfl (by kernel_rfl) (fun K hK => ?_)
       go_simp
       go_at_call 79
       refine (HSI.out _ hHeld.1).mono ?_
       rintro e2 wq ⟨rfl, hbq⟩
       have hbq3 := bthen hHeld.1 hbq
       go_wp2_with fail
       refine hK.out _ _ (HK.out _ hbq3) (fun hNew => ?_)
       clear hK K hHeld; have hHeld := hNew; clear hNew
       try simp only [Act.put, k0, k1, k2]
       by_cases q101 : vs = u
       ·obtain ⟨d101, e101, f101⟩ := ceT q101
        have H101 := Lib.hid q101; clear q101; try simp only [d101, e101, f101]
        refine kY 9 hHeld ?_
        simp only [Act.put, k0, k1, k2]
        refine kY 10 hHeld ?_
        simp only [Act.put, k0, k1, k2]
        refine kY 11 hHeld ?_
        simp only [Act.put, k0, k1, k2]
        refine kY 12 hHeld ?_
        simp only [Act.put, k0, k1, k2]
        refine kY 13 hHeld ?_
        simp only [Act.put, k0, k1, k2]
        refine kY 14 hHeld ?_
        simp only [Act.put, k0, k1, k2]
        refine kC 15 rfl (by kernel_rfl) (fun K hK => ?_)
        go_simp
        go_at_call 80
        refine (HPV.out _ hHeld.1).mono ?_
        rintro e2 wq ⟨rfl, hbq⟩
        have hbq4 := bthen hHeld.1 hbq
        go_wp2_with fail
        refine hK.out _ _ (HK.out _ hbq4) (fun hNew => ?_)
        clear hK K hHeld; have hHeld := hNew; clear hNew
        try simp only [Act.put, k0, k1, k2]
        cases b1
        ·have H108 := hidF HB1; clear HB1
         refine kY 16 hHeld ?_
         simp only [Act.put, k0, k1, k2]
         refine kY 17 hHeld ?_
         simp only [Act.put, k0, k1, k2]
         refine kN 2 [(18, 111), (19, 112), (20, 113), (21, 114), (22, 115), (23, 116), (24, 117), (25, 118), (26, 119), (27, 120), (28, 121), (29, 122)] rfl (by kernel_rfl) (fun _ _ _ _ h => h) hHeld ?_
         simp only [k3, k4, Act.put, k0, k1, k2]
         refine kY 30 hHeld ?_
         simp only [Act.put, k0, k1, k2]
         refine kY 31 hHeld ?_
         simp only [Act.put, k0, k1, k2]
         refine wpAnyH_done (by kernel_rfl) ?_ _
         have HR := Lib.hid HQ.out
         go_wp2_with fail
         go_ret
         exact ⟨_, rfl, Lib.hid (by rw [HR.out]; simp [eq_true H101.out, eq_false H108.out]), bthen hB2 hHeld.1⟩
        ·have H108 := hidT HB1; clear HB1
         refine kY 16 hHeld ?_
         simp only [Act.put, k0, k1, k2]
         refine kY 17 hHeld ?_
         simp only [Act.put, k0, k1, k2]
         refine kY 18 hHeld ?_
         simp only [Act.put, k0, k1, k2]
         refine kY 19 hHeld ?_
         simp only [Act.put, k0, k1, k2]
         refine kY 20 hHeld ?_
         simp only [Act.put, k0, k1, k2]
         refine kY 21 hHeld ?_
         simp only [Act.put, k0, k1, k2]
         refine kY 22 hHeld ?_
         simp only [Act.put, k0, k1, k2]
         refine kY 23 hHeld ?_
         simp only [Act.put, k0, k1, k2]
         refine kY 24 hHeld ?_
         simp only [Act.put, k0, k1, k2]
         refine kY 25 hHeld ?_
         simp only [Act.put, k0, k1, k2]
         refine kY 26 hHeld ?_
         simp only [Act.put, k0, k1, k2]
         refine kY 27 hHeld ?_
         simp only [Act.put, k0, k1, k2]
         refine kY 28 hHeld ?_
         simp only [Act.put, k0, k1, k2]
         refine kC 29 rfl (by kernel_rfl) (fun K hK => ?_)
         go_simp
         go_at_call 80
         refine (HPU.out _ hHeld.1).mono ?_
         rintro e2 wq ⟨rfl, hbq⟩
         have hbq5 := bthen hHeld.1 hbq
         go_wp2_with fail
         refine hK.out _ _ (HK.out _ hbq5) (fun hNew => ?_)
         clear hK K hHeld; have hHeld := hNew; clear hNew
         try simp only [Act.put, k0, k1, k2]
         cases b2
         ·have H122 := hidF HB2; clear HB2
          refine kY 30 hHeld ?_
          simp only [Act.put, k0, k1, k2]
          refine kY 31 hHeld ?_
          simp only [Act.put, k0, k1, k2]
          refine wpAnyH_done (by kernel_rfl) ?_ _
          have HR := Lib.hid HQ.out
          go_wp2_with fail
          go_ret
          exact ⟨_, rfl, Lib.hid (by rw [HR.out]; simp [eq_true H101.out, eq_true H108.out, eq_false H122.out]), bthen hB2 hHeld.1⟩
         ·have H122 := hidT HB2; clear HB2
          refine kY 30 hHeld ?_
          simp only [Act.put, k0, k1, k2]
          refine kY 31 hHeld ?_
          simp only [Act.put, k0, k1, k2]
          refine wpAnyH_done (by kernel_rfl) ?_ _
          have HR := Lib.hid HQ.out
          go_wp2_with fail
          go_ret
          exact ⟨_, rfl, Lib.hid (by rw [HR.out]; simp [eq_true H101.out, eq_true H108.out, eq_true H122.out]), bthen hB2 hHeld.1⟩
       ·obtain ⟨d101, e101, f101⟩ := ceF q101
        have H101 := Lib.hid q101; clear q101; try simp only [d101, e101, f101]
        refine kY 9 hHeld ?_
        simp only [Act.put, k0, k1, k2]
        refine kY 10 hHeld ?_
        simp only [Act.put, k0, k1, k2]
        refine kN 16 [(11, 104), (12, 105), (13, 106), (14, 107), (15, 108)] rfl (by kernel_rfl) (fun _ _ _ _ h => h) hHeld ?_
        simp only [k3, k4, Act.put, k0, k1, k2]
        refine kY 16 hHeld ?_
        simp only [Act.put, k0, k1, k2]
        refine kY 17 hHeld ?_
        simp only [Act.put, k0, k1, k2]
        refine kN 2 [(18, 111), (19, 112), (20, 113), (21, 114), (22, 115), (23, 116), (24, 117), (25, 118), (26, 119), (27, 120), (28, 121), (29, 122)] rfl (by kernel_rfl) (fun _ _ _ _ h => h) hHeld ?_
        simp only [k3, k4, Act.put, k0, k1, k2]
        refine kY 30 hHeld ?_
        simp only [Act.put, k0, k1, k2]
        refine kY 31 hHeld ?_
        simp only [Act.put, k0, k1, k2]
        refine wpAnyH_done (by kernel_rfl) ?_ _
        have HR := Lib.hid HQ.out
        go_wp2_with fail
        go_ret
        exact ⟨_, rfl, Lib.hid (by rw [HR.out]; simp [eq_false H101.out]), bthen hB2 hHeld.1⟩
     ·obtain ⟨l1, l2, l3⟩ := ceF hK3
      have HQ : Hid (¬ PP) := Lib.hid fun c => by
       rcases HM.out.1 c with q | q
       ·exact hK2 q.1
       ·exact hK3 q.1
      clear HM hK2 hK3 HPI hin HZ
      go_wp2_with fail
      go_ret
      exact says_no HQ.out hB2
  ·have HQ := NO2.out (.inl hat)
   obtain ⟨d1, d2, d3⟩ := ceF hat
   clear NO2 HM HZ hat hN1
   go_wp2_with fail
   go_ret
   exact says_no HQ hB1
end Go.Proofs.YtdemmjofggemhaaGreatDoor
