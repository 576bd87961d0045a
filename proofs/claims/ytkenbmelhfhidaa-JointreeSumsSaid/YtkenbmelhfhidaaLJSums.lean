/- The walk of osierlaw16.JointreeSums. -/
import Derived.Test.YtkenbmelhfhidaaJtW3
import Derived.Test.YtkenbmelhfhidaaJtW7
namespace Go.Proofs.Ytkenbmelhfhidaa
open Go.RowKit

attribute [local go_sem ↓] uz_and uz_or uz_andNot uz_and_one uz_shr uz_shl_one uz_shl uz_sub uz_sub_one uz_add uz_beq_zero uz_bne_zero uz_beq uz_bne uz_beq_one

theorem sumTo_bd (E : List (BitVec 32)) (p : Nat → Int) : ∀ k, 0 ≤ sumTo E p k ∧ sumTo E p k ≤ 32 * k
  | 0 => by simp [sumTo]
  | k + 1 => by
    have h := sumTo_bd E p k
    rw [sumTo_enters]
    have := sizeW_le (enters E p k)
    omega
theorem sums_ok {V : Int} {E : List (BitVec 32)} {P : List Int} (hv : validB V E = true) (hl : P.length = E.length) (ht : treeB P = true) : checkB V E P = (sumTo E (pz P) E.length == (sizeW (orTo E E.length) : Int)) := by
  have h2 := ((treeB_iff P).1 ht).2
  rw [hl] at h2
  rw [Bool.eq_iff_iff, beq_iff_eq, sum_iff h2]
  unfold checkB
  rw [hv, ht, hl]; simp

set_option maxHeartbeats 4000000 in
set_option maxRecDepth 100000 in
theorem law_jsums (V : Int) (A : Option Addr) (E : List (BitVec 32)) (c : Nat) (A' : Option Addr) (P : List Int) (c' : Nat) (w : World) (hl : E.length ≤ 35184372087808) (hE : Rd w w.heap.size A (us E)) (hl' : P.length ≤ 35184372087808) (hP : Rd w w.heap.size A' (is P)) :
    Calls Try.prog 6 #[.agg #[.int .i64 V, .slice A E.length c], .slice A' P.length c'] w fun e w' => e = .returned (.bool true) ∧ Below w.heap.size w w' := by
  go_enter Try.func6, Try.ntmps6
  go_wp2_with fail
  have hb0 := below_alloc w (.cells #[.int .i64 V, .slice A E.length c] 24)
  have hG0 : Row (w.alloc (.cells #[.int .i64 V, .slice A E.length c] 24)) w.heap.size 24 [.int .i64 V, .slice A E.length c] := Row.new _ _ _
  generalize w.alloc _ = w0 at hb0 hG0 ⊢
  refine (copy_any V A E c _ hl (hE.later hb0)).mono ?_
  rintro e w1 ⟨g, rfl, hg, hRg, hb1⟩
  have hB1 := bthen hb0 hb1
  go_wp2_with fail
  refine (ints_any A' P c' w1 hl' (hP.later hB1)).mono ?_
  rintro e w2 ⟨h, rfl, hh, hRh, hb2⟩
  have hB2 := bthen hB1 hb2
  have hRg2 := hRg.later hb2
  go_wp2_with fail
  refine (check_any V _ _ E P _ _ w2 hl hl' hRg2.rd hRh.rd).mono ?_
  rintro e w3 ⟨rfl, hb3⟩
  have hB3 := bthen hB2 hb3
  have hG3 := hG0.later (bthen hb1 (bthen hb2 hb3))
  have d0 : w3.cell? ⟨w.heap.size, 0, none⟩ = some (.int .i64 V) := hG3.cell 0
  have d1 : w3.cell? ⟨w.heap.size, 1, none⟩ = some (.slice A E.length c) := hG3.cell 1
  have hE3 := hE.later hB3
  have hP3 := hP.later hB3
  clear hg hRg hh hRh hRg2 hb0 hb1 hb2 hb3 hG0 hB1 hB2 hE hP
  obtain ⟨u, hu⟩ : ∃ u, checkB V E P = u := ⟨_, rfl⟩
  rw [hu]
  have HU := Lib.hid hu
  clear hu
  go_wp2_with fail
  refine (r14valid_any V A E c w3 hl hE3).mono ?_
  rintro e w4 ⟨rfl, hb4⟩
  have hB4 := bthen hB3 hb4
  have hG4 := hG3.later hb4
  have e1 : w4.cell? ⟨w.heap.size, 1, none⟩ = some (.slice A E.length c) := hG4.cell 1
  have hlt4 := hG4.lt
  have hP4 := hP3.later hb4
  clear d0 d1 hG3
  cases hv : validB V E
  · have hu0 : Hid (u = false) := Lib.hid (by rw [← HU.out]; unfold checkB; rw [hv]; rfl)
    obtain rfl := hu0.out
    clear hu0
    go_wp2_with fail
    refine (awake16_any w4).mono ?_
    rintro e w5 ⟨rfl, hb5⟩
    go_wp2_with fail
    go_ret
    exact ⟨rfl, bthen hB4 hb5⟩
  · by_cases hlen : P.length = E.length
    · have hlb : ((P.length : Int) != (E.length : Int)) = false := by simp [hlen]
      have h7 := (validB_of hv).2.2.1
      have HL := Lib.hid hlen
      have HV := Lib.hid hv
      clear hlen hv
      go_wp2_with fail
      refine (r16isTree_any A' P c' w4 hl' hP4).mono ?_
      rintro e w5 ⟨rfl, hb5⟩
      have hB5 := bthen hB4 hb5
      have hG5 := hG4.later hb5
      cases ht : treeB P
      · have hu0 : Hid (u = false) := Lib.hid (by rw [← HU.out]; unfold checkB; rw [ht]; simp)
        obtain rfl := hu0.out
        clear hu0
        go_wp2_with fail
        refine (awake16_any w5).mono ?_
        rintro e w6 ⟨rfl, hb6⟩
        go_wp2_with fail
        go_ret
        exact ⟨rfl, bthen hB5 hb6⟩
      · have HT := Lib.hid ((treeB_iff P).1 ht).2
        have HC : Hid (u = (sumTo E (pz P) E.length == (sizeW (orTo E E.length) : Int))) := Lib.hid (by rw [← HU.out]; exact sums_ok HV.out HL.out ht)
        have f1 : w5.cell? ⟨w.heap.size, 1, none⟩ = some (.slice A E.length c) := hG5.cell 1
        have hE5 := (hE3.later hb4).later hb5
        have hP5 := hP4.later hb5
        clear ht e1 hG4 hE3 hP3 hP4 hb4 hB3 hB4
        go_wp2_with fail
        go_loopw [6, 7, 8, 9, 39] (fun sm al _ _ j wr => ∃ k : Nat, k ≤ E.length ∧ j = .int .i64 k ∧ sm = .int .i64 (sumTo E (pz P) k) ∧ al = .int .u32 (uz (orTo E k)) ∧ Below w5.heap.size w5 wr) (fun _ _ _ _ j _ => E.length - (intOf j).toNat)
        case atStart => exact ⟨0, Nat.zero_le _, rfl, rfl, rfl, Below.refl _ _⟩
        case round =>
          obtain ⟨k, hk, rfl, rfl, rfl, hb⟩ := hrel
          have f2 : wr.cell? ⟨w.heap.size, 1, none⟩ = some (.slice A E.length c) := (hG5.later hb).cell 1
          have hE6 := hE5.later hb
          have hP6 := hP5.later hb
          have hbd := sumTo_bd E (pz P) k
          by_cases hlt : k < E.length
          · have hlt' : k < P.length := by have := HL.out; omega
            obtain ⟨ad, hA, _, hc⟩ := hE6.e_at hlt
            obtain ⟨ad', hA', _, hc'⟩ := hP6.p_at hlt'
            have hr := HT.out.rng k hlt'
            have HS : Hid (sumTo E (pz P) (k + 1) = (sumTo E (pz P) k + sizeW (ed E k)) - if 0 ≤ pz P k then (sizeW (ed E k &&& ed E (pz P k).toNat) : Int) else 0) := rfl
            have HO : Hid (orTo E (k + 1) = orTo E k ||| ed E k) := rfl
            subst hA hA'
            have b1 : (0 : Int) ≤ k := by omega
            have b2 : (k : Int) < E.length := by omega
            have b3 : (k : Int) < P.length := by omega
            have hs1 := sizeW_le (ed E k)
            by_cases hp : 0 ≤ pz P k
            · obtain ⟨q, hq⟩ := Int.eq_ofNat_of_zero_le hp
              have hqE : q < E.length := by have := HL.out; omega
              obtain ⟨ad3, hA3, _, hc3⟩ := hE6.e_at hqE
              obtain rfl : ad = ad3 := by injection hA3
              rw [if_pos hp, hq, Int.toNat_natCast] at HS
              rw [hq] at hc'
              have hs2 := sizeW_le (ed E k &&& ed E q)
              have q1 : (0 : Int) ≤ q := by omega
              have q2 : (q : Int) < E.length := by omega
              generalize ed E k = x at hc HS HO hs1 hs2
              generalize ed E q = y at hc3 HS hs2
              clear hp hq hr hA3
              have hz1 := size_any x
              have HZ1 := Lib.hid hz1
              have HZ2 : Hid (∀ w, Calls Try.prog 40 #[.int .u32 (uz (x &&& y))] w fun e w' => e = .returned (.int .i64 (sizeW (x &&& y) : Nat)) ∧ w = w') := Lib.hid (size_any _)
              have HBO : Hid (∀ w, Calls Try.prog 41 #[.int .u32 (uz x), .int .u32 (uz y)] w fun e w' => e = .returned (.int .u32 (uz (x &&& y))) ∧ w = w') := Lib.hid (both_any x y)
              clear hz1
              generalize sizeW x = s1 at HZ1 HS hs1
              generalize sizeW (x &&& y) = s2 at HZ2 HS hs2
              generalize sumTo E (pz P) k = sm at HS hbd ⊢
              generalize orTo E k = al at HO ⊢
              have hw1 : IntKind.i64.wrap (sm + s1) = sm + s1 := IntWalk.i64_in _ (by omega)
              go_wp2_with fail
              refine (HZ1.out _).mono ?_
              rintro e w6 ⟨rfl, rfl⟩
              have hw2 : IntKind.i64.wrap (sm + s1 - s2) = sm + s1 - s2 := IntWalk.i64_in _ (by omega)
              go_wp2_with fail
              go_quiet (first | (go_at_call 41; exact pure_quiet HBO.out) | (go_at_call 40; exact pure_quiet HZ2.out))
              go_wp2_with fail
              go_roundw
              case measure => simp [intOf]; omega
              case rel => exact ⟨k + 1, by omega, by go_num, by rw [HS.out], by rw [HO.out], below_drewN hb _⟩
            · rw [if_neg hp] at HS
              have hp1 : pz P k < 0 := by omega
              generalize pz P k = p at hc' hp1
              generalize ed E k = x at hc HS HO hs1
              have HZ1 := Lib.hid (size_any x)
              generalize sizeW x = s1 at HZ1 HS hs1
              generalize sumTo E (pz P) k = sm at HS hbd ⊢
              generalize orTo E k = al at HO ⊢
              have hw1 : IntKind.i64.wrap (sm + s1) = sm + s1 := IntWalk.i64_in _ (by omega)
              have hd : decide ((0 : Int) ≤ p) = false := decide_eq_false (by omega)
              clear hp hr hp1
              go_wp2_with fail
              refine (HZ1.out _).mono ?_
              rintro e w6 ⟨rfl, rfl⟩
              go_wp2_with fail
              go_roundw
              case measure => simp [intOf]; omega
              case rel => exact ⟨k + 1, by omega, by go_num, by rw [HS.out]; simp, by rw [HO.out], hb⟩
          · obtain rfl : k = E.length := by omega
            have HZ := Lib.hid (size_any (orTo E E.length))
            generalize sizeW (orTo E E.length) = s at HZ HC
            generalize orTo E E.length = al at HZ ⊢
            generalize sumTo E (pz P) E.length = sm at HC hbd ⊢
            go_wp2_with fail
            refine (HZ.out _).mono ?_
            rintro e w6 ⟨rfl, rfl⟩
            have hq : (u == (sm == (s : Int))) = true := by rw [HC.out]; simp
            go_wp2_with fail
            refine (awake16_any _).mono ?_
            rintro e w7 ⟨rfl, hb7⟩
            go_wp2_with fail
            go_ret
            exact ⟨rfl, bthen (bthen hB5 hb) hb7⟩
    · have hlb : ((P.length : Int) != (E.length : Int)) = true := by simp; omega
      have hu0 : Hid (u = false) := Lib.hid (by rw [← HU.out]; unfold checkB; rw [show (P.length == E.length) = false by simpa using hlen]; simp)
      obtain rfl := hu0.out
      clear hu0 hlen hv
      go_wp2_with fail
      refine (awake16_any w4).mono ?_
      rintro e w5 ⟨rfl, hb5⟩
      go_wp2_with fail
      go_ret
      exact ⟨rfl, bthen hB4 hb5⟩
end Go.Proofs.Ytkenbmelhfhidaa
