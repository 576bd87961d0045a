/- The contracts of jointree.IsTree and jointree.Check. -/
import Derived.Test.YtkenbmelhfhidaaZed
import Derived.Test.YtkenbmelhfhidaaJtLaw3
namespace Go.Proofs.Ytkenbmelhfhidaa
open Go.RowKit

attribute [local go_sem ↓] uz_and uz_or uz_andNot uz_and_one uz_shr uz_shl_one uz_shl uz_sub uz_sub_one uz_add uz_beq_zero uz_bne_zero uz_beq uz_bne uz_beq_one

theorem Rd.p_at {w : World} {B : Nat} {A : Option Addr} {P : List Int} (h : Rd w B A (is P)) {k : Nat} (hk : k < P.length) :
    ∃ ad, A = some ad ∧ ad.block < B ∧ w.cell? (ad.add k) = some (.int .i64 (pz P k)) := by
  rw [← pz_eq P k hk]; exact h.i_at hk
theorem treeB_long {P : List Int} (h : 7 < P.length) : treeB P = false := by
  unfold treeB; rw [decide_eq_false (by omega)]; rfl
theorem treeB_rng {P : List Int} {k : Nat} (hk : k < P.length) (h : pz P k < -1 ∨ (P.length : Int) ≤ pz P k) : treeB P = false := by
  cases hb : treeB P
  · rfl
  · have := ((treeB_iff P).1 hb).2.rng k hk; omega
theorem treeB_up {P : List Int} {k : Nat} (hk : k < P.length) (h : up (pz P) P.length (k : Int) ≠ -1) : treeB P = false := by
  cases hb : treeB P
  · rfl
  · exact absurd (((treeB_iff P).1 hb).2.reach k hk) h
/-- The first k parents are in range, and lead to the root. -/
def okTo (P : List Int) (k : Nat) : Prop := ∀ i : Nat, i < k → rngB P.length (pz P i) = true ∧ up (pz P) P.length (i : Int) = -1
theorem okTo_next {P : List Int} {k : Nat} (h : okTo P k) (h1 : -1 ≤ pz P k) (h2 : pz P k < P.length) (h3 : up (pz P) P.length (k : Int) = -1) : okTo P (k + 1) := fun i hi => by
  rcases Nat.lt_or_ge i k with c | c
  · exact h i c
  · obtain rfl : i = k := by omega
    exact ⟨by unfold rngB; simp [h1, h2], h3⟩
theorem okTo_all {P : List Int} (h : okTo P P.length) (h7 : P.length ≤ 7) : treeB P = (cntB (fun i => pz P i == -1) P.length == min 1 P.length) := by
  unfold treeB
  have h1 : ((List.range P.length).all fun i => rngB P.length (pz P i)) = true := by
    rw [List.all_eq_true]; intro i hi; exact (h i (List.mem_range.1 hi)).1
  have h2 : ((List.range P.length).all fun (i : Nat) => up (pz P) P.length (i : Int) == -1) = true := by
    rw [List.all_eq_true]; intro i hi; simpa using (h i (List.mem_range.1 hi)).2
  rw [decide_eq_true h7, h1, h2]; simp
theorem cntB_t {p : Nat → Bool} {k : Nat} (h : p k = true) : cntB p (k + 1) = cntB p k + 1 := by show _ + _ = _; rw [h]; rfl
theorem cntB_f {p : Nat → Bool} {k : Nat} (h : p k = false) : cntB p (k + 1) = cntB p k := by show _ + _ = _; rw [h]; rfl

set_option maxHeartbeats 2000000 in
set_option maxRecDepth 100000 in
theorem isTree_any (A : Option Addr) (P : List Int) (c : Nat) (w : World) (hl : P.length ≤ 35184372087808) (hP : Rd w w.heap.size A (is P)) :
    Calls Try.prog 30 #[.slice A P.length c] w fun e w' => e = .returned (.bool (treeB P)) ∧ w = w' := by
  by_cases h7 : P.length ≤ 7
  · have HR := Lib.hid (okTo_all (P := P) · h7)
    go_enter Try.func30, Try.ntmps30
    go_wp2_with fail
    go_loop [3, 4, 5, 6, 7, 13] (fun r _ _ _ _ j => ∃ k : Nat, k ≤ P.length ∧ j = .int .i64 k ∧ r = .int .i64 (cntB (fun i => pz P i == -1) k : Nat) ∧ Hid (okTo P k)) (fun _ _ _ _ _ j => P.length - (intOf j).toNat)
    case atStart => exact ⟨0, Nat.zero_le _, rfl, rfl, Lib.hid (fun i hi => absurd hi (Nat.not_lt_zero i))⟩
    case round =>
      obtain ⟨k, hk, rfl, rfl, hok⟩ := hrel
      have hcl := cntB_le (fun i => pz P i == -1) k
      by_cases hlt : k < P.length
      · obtain ⟨ad, hA, _, hc⟩ := hP.p_at hlt
        subst hA
        have HT := Lib.hid (cntB_t (p := fun i => pz P i == -1) (k := k))
        have HF := Lib.hid (cntB_f (p := fun i => pz P i == -1) (k := k))
        have HN := Lib.hid (okTo_next hok.out)
        have HX := Lib.hid (treeB_rng hlt)
        have HU := Lib.hid (treeB_up hlt)
        obtain ⟨x, hx⟩ : ∃ x, pz P k = x := ⟨_, rfl⟩
        rw [hx] at hc HN HX
        generalize hr : cntB (fun i => pz P i == -1) k = r at hcl HT HF ⊢
        have HXX := Lib.hid hx
        clear hx hr
        by_cases h1 : x < -1
        · have hf := Lib.hid (HX.out (.inl h1))
          have d1 : decide (x < -1) = true := by simpa using h1
          go_wp2_with fail
          go_ret
          exact ⟨by first | rfl | (rw [hf.out]; rfl), rfl⟩
        · have d1 : decide (x < -1) = false := by simpa using h1
          by_cases h2 : (P.length : Int) ≤ x
          · have hf := Lib.hid (HX.out (.inr h2))
            have d2 : decide ((P.length : Int) ≤ x) = true := by simpa using h2
            go_wp2_with fail
            go_ret
            exact ⟨by first | rfl | (rw [hf.out]; rfl), rfl⟩
          · have d2 : decide ((P.length : Int) ≤ x) = false := by simpa using h2
            obtain ⟨r2, hr2, hr3, hr4⟩ : ∃ r2 : Nat, r2 = cntB (fun i => pz P i == -1) (k + 1) ∧ r2 ≤ 7 ∧ (r2 : Int) = r + if x == -1 then 1 else 0 := by
              refine ⟨_, rfl, ?_, ?_⟩
              · have := cntB_le (fun i => pz P i == -1) (k + 1); omega
              · cases hb : (x == -1)
                · rw [HF.out (by rw [HXX.out]; exact hb)]; simp
                · rw [HT.out (by rw [HXX.out]; exact hb)]; simp
            have HR2 := Lib.hid hr2
            clear hr2
            cases hb : (x == -1)
            all_goals
              rw [hb] at hr4
              simp only [Bool.false_eq_true, if_false, if_true, Int.add_zero] at hr4
              have HR4 := Lib.hid hr4
              clear hr4
              go_wp2_with fail
              go_loop [6, 7] (fun st at_ => ∃ (m : Nat) (y : Int), m ≤ P.length ∧ st = .int .i64 m ∧ at_ = .int .i64 y ∧ -1 ≤ y ∧ y < P.length ∧ Hid (up (pz P) (P.length - m) y = up (pz P) P.length (k : Int))) (fun st _ => P.length - (intOf st).toNat)
              case atStart => exact ⟨0, k, Nat.zero_le _, rfl, rfl, by omega, by omega, rfl⟩
              case round =>
                obtain ⟨m, y, hm, rfl, rfl, hy1, hy2, hup⟩ := hrel
                by_cases hy : y = -1
                · subst hy
                  have hu : up (pz P) P.length (k : Int) = -1 := by rw [← hup.out]; exact up_neg _ (by omega) _
                  have HK := Lib.hid (HN.out (by omega) (by omega) hu)
                  clear hu
                  go_wp2_with fail
                  go_round
                  case rel => exact ⟨k + 1, by omega, by go_num, by first | (rw [← HR2.out, HR4.out]; rfl) | (rw [← HR2.out, HR4.out]), HK⟩
                  case measure => simp [intOf]; omega
                · have e1 : (y != -1) = true := by simp [hy]
                  obtain ⟨j, rfl⟩ := Int.eq_ofNat_of_zero_le (show 0 ≤ y by omega)
                  have hj : j < P.length := by omega
                  by_cases hmn : m < P.length
                  · obtain ⟨ad2, hA2, _, hc2⟩ := hP.p_at hj
                    obtain rfl : ad = ad2 := by injection hA2
                    have HX2 := Lib.hid (treeB_rng hj)
                    have HU2 : Hid (up (pz P) (P.length - (m + 1)) (pz P j) = up (pz P) P.length (k : Int)) := Lib.hid (by
                      rw [← hup.out, show P.length - m = (P.length - (m + 1)) + 1 by omega, up_nat])
                    generalize pz P j = z at hc2 HX2 HU2
                    clear hA2 hy
                    by_cases h3 : z < -1
                    · have hf := Lib.hid (HX2.out (.inl h3))
                      have d3 : decide (z < -1) = true := by simpa using h3
                      go_wp2_with fail
                      go_ret
                      exact ⟨by first | rfl | (rw [hf.out]; rfl), rfl⟩
                    · have d3 : decide (z < -1) = false := by simpa using h3
                      by_cases h4 : (P.length : Int) ≤ z
                      · have hf := Lib.hid (HX2.out (.inr h4))
                        have d4 : decide ((P.length : Int) ≤ z) = true := by simpa using h4
                        go_wp2_with fail
                        go_ret
                        exact ⟨by first | rfl | (rw [hf.out]; rfl), rfl⟩
                      · have d4 : decide ((P.length : Int) ≤ z) = false := by simpa using h4
                        go_wp2_with fail
                        go_round
                        case rel => exact ⟨m + 1, z, by omega, by go_num, rfl, by omega, by omega, HU2⟩
                        case measure => simp [intOf]; omega
                  · obtain rfl : m = P.length := by omega
                    have hf : Hid (treeB P = false) := Lib.hid (HU.out (by rw [← hup.out, Nat.sub_self]; show ((j : Nat) : Int) ≠ -1; omega))
                    clear hy
                    go_wp2_with fail
                    go_ret
                    exact ⟨by first | rfl | (rw [hf.out]; rfl), rfl⟩
      · obtain rfl : k = P.length := by omega
        have HE := Lib.hid (HR.out hok.out)
        generalize cntB (fun i => pz P i == -1) P.length = r at hcl HE ⊢
        go_wp2_with fail
        · have e : treeB P = ((r : Int) == (P.length : Int)) := by
            rw [HE.out, Bool.eq_iff_iff, beq_iff_eq, beq_iff_eq]; omega
          have HE2 := Lib.hid e
          clear e
          go_ret
          exact ⟨by rw [HE2.out]; rfl, rfl⟩
        · have e : treeB P = ((r : Int) == 1) := by
            rw [HE.out, Bool.eq_iff_iff, beq_iff_eq, beq_iff_eq]; omega
          have HE2 := Lib.hid e
          clear e
          go_ret
          exact ⟨by rw [HE2.out]; rfl, rfl⟩
  · have hf := Lib.hid (treeB_long (P := P) (by omega))
    have hlt : 7 < P.length := by omega
    go_enter Try.func30, Try.ntmps30
    go_wp2
    go_ret
    exact ⟨by first | rfl | (rw [hf.out]; rfl), rfl⟩

set_option maxHeartbeats 2000000 in
set_option maxRecDepth 100000 in
theorem check_any (V : Int) (A A' : Option Addr) (E : List (BitVec 32)) (P : List Int) (c c' : Nat) (w : World) (hl : E.length ≤ 35184372087808) (hl' : P.length ≤ 35184372087808) (hE : Rd w w.heap.size A (us E)) (hP : Rd w w.heap.size A' (is P)) :
    Calls Try.prog 32 #[.agg #[.int .i64 V, .slice A E.length c], .slice A' P.length c'] w fun e w' => e = .returned (.bool (checkB V E P)) ∧ Below w.heap.size w w' := by
  go_enter Try.func32, Try.ntmps32
  go_wp2_with fail
  have hb0 := below_alloc w (.cells #[.int .i64 V, .slice A E.length c] 24)
  have hG0 : Row (w.alloc (.cells #[.int .i64 V, .slice A E.length c] 24)) w.heap.size 24 [.int .i64 V, .slice A E.length c] := Row.new _ _ _
  generalize w.alloc _ = W0 at hb0 hG0 ⊢
  refine (valid_any V A E c _ hl (hE.later hb0)).mono ?_
  rintro e w1 ⟨rfl, hb1⟩
  have hB1 := bthen hb0 hb1
  have hG1 := hG0.later hb1
  have d1 : w1.cell? ⟨w.heap.size, 1, none⟩ = some (.slice A E.length c) := hG1.cell 1
  have hE1 := hE.later hB1
  have hP1 := hP.later hB1
  clear hG0 hb0 hb1 hG1 hE hP
  cases hv : validB V E
  · have hf : Hid (checkB V E P = false) := Lib.hid (by unfold checkB; rw [hv]; rfl)
    go_wp2_with fail
    go_ret
    exact ⟨by first | rfl | (rw [hf.out]; rfl), hB1⟩
  · by_cases hlen : P.length = E.length
    · have hlb : ((P.length : Int) != (E.length : Int)) = false := by simp [hlen]
      have h7 := (validB_of hv).2.2.1
      have HL := Lib.hid hlen
      have HV := Lib.hid hv
      clear hlen hv
      go_wp2_with fail
      refine (isTree_any A' P c' w1 hl' hP1).mono ?_
      rintro e w2 ⟨rfl, rfl⟩
      cases ht : treeB P
      · have hf : Hid (checkB V E P = false) := Lib.hid (by unfold checkB; rw [ht]; simp)
        clear ht
        go_wp2_with fail
        go_ret
        exact ⟨by first | rfl | (rw [hf.out]; rfl), hB1⟩
      · have HT := Lib.hid ((treeB_iff P).1 ht).2
        have hC : Hid (checkB V E P = oneTo E (pz P) E.length) := Lib.hid (by unfold checkB; rw [HV.out, ht, HL.out]; simp)
        clear ht
        go_wp2_with fail
        go_loop [5, 6, 7, 8, 27] (fun s _ _ _ j => ∃ k : Nat, k ≤ P.length ∧ j = .int .i64 k ∧ s = .int .u32 (uz (seenTo E (pz P) k)) ∧ Hid (oneTo E (pz P) k = true)) (fun _ _ _ _ j => P.length - (intOf j).toNat)
        case atStart => exact ⟨0, Nat.zero_le _, rfl, rfl, rfl⟩
        case round =>
          obtain ⟨k, hk, rfl, rfl, hok⟩ := hrel
          by_cases hlt : k < P.length
          · have hltE : k < E.length := by have := HL.out; omega
            obtain ⟨ad, hA, _, hc⟩ := hE1.e_at hltE
            obtain ⟨ad2, hA2, _, hc2⟩ := hP1.p_at hlt
            have hr := HT.out.rng k hlt
            subst hA hA2
            have a1 : (0 : Int) ≤ k := by omega
            have a2 : (k : Int) < E.length := by omega
            have HS : Hid (seenTo E (pz P) (k + 1) = seenTo E (pz P) k ||| enters E (pz P) k) := rfl
            have HO := Lib.hid (oneTo_succ E (pz P) k)
            have HF := Lib.hid (oneTo_false (E := E) (p := pz P) hltE)
            by_cases hp : 0 ≤ pz P k
            · obtain ⟨q, hq⟩ := Int.eq_ofNat_of_zero_le hp
              have hqE : q < E.length := by have := HL.out; omega
              obtain ⟨ad3, hA3, _, hc3⟩ := hE1.e_at hqE
              obtain rfl : ad = ad3 := by injection hA3
              have HE : Hid (enters E (pz P) k = ed E k &&& ~~~ed E q) := Lib.hid (by unfold enters; rw [if_pos hp, hq]; simp)
              rw [hq] at hc2
              have b1 : (0 : Int) ≤ q := by omega
              have b2 : (q : Int) < E.length := by omega
              generalize enters E (pz P) k = n at HS HO HF HE
              generalize ed E k = x at hc HE
              generalize ed E q = y at hc3 HE
              clear hp hq hr hA3
              have HE' := HE.out
              generalize seenTo E (pz P) k = s at HS HO HF ⊢
              cases hz : (s &&& n == 0#32)
              · have hf : Hid (checkB V E P = false) := Lib.hid (by rw [hC.out]; exact HF.out hz)
                have hz2 : (s &&& (x &&& ~~~y) != 0#32) = true := by rw [← HE']; simpa using hz
                clear hz HE'
                go_wp2_with fail
                go_ret
                exact ⟨by first | rfl | (rw [hf.out]; rfl), hB1⟩
              · have hz2 : (s &&& (x &&& ~~~y) != 0#32) = false := by rw [← HE']; simpa using hz
                have HO2 : Hid (oneTo E (pz P) (k + 1) = true) := Lib.hid (by rw [HO.out, hok.out, hz]; rfl)
                clear hz HE'
                go_wp2_with fail
                go_round
                case rel => exact ⟨k + 1, by omega, by go_num, by rw [HS.out, HE.out], HO2⟩
                case measure => simp [intOf]; omega
            · have HE : Hid (enters E (pz P) k = ed E k) := Lib.hid (by unfold enters; rw [if_neg hp])
              have hpd : decide (0 ≤ pz P k) = false := by simpa using hp
              generalize enters E (pz P) k = n at HS HO HF HE
              generalize ed E k = x at hc HE
              generalize pz P k = z at hc2 hpd
              clear hp hr
              have HE' := HE.out
              generalize seenTo E (pz P) k = s at HS HO HF ⊢
              cases hz : (s &&& n == 0#32)
              · have hf : Hid (checkB V E P = false) := Lib.hid (by rw [hC.out]; exact HF.out hz)
                have hz2 : (s &&& x != 0#32) = true := by rw [← HE']; simpa using hz
                clear hz HE'
                go_wp2_with fail
                go_ret
                exact ⟨by first | rfl | (rw [hf.out]; rfl), hB1⟩
              · have hz2 : (s &&& x != 0#32) = false := by rw [← HE']; simpa using hz
                have HO2 : Hid (oneTo E (pz P) (k + 1) = true) := Lib.hid (by rw [HO.out, hok.out, hz]; rfl)
                clear hz HE'
                go_wp2_with fail
                go_round
                case rel => exact ⟨k + 1, by omega, by go_num, by rw [HS.out, HE.out], HO2⟩
                case measure => simp [intOf]; omega
          · have hf : Hid (checkB V E P = true) := Lib.hid (by rw [hC.out, ← HL.out, show P.length = k by omega]; exact hok.out)
            go_wp2_with fail
            go_ret
            exact ⟨by first | rfl | (rw [hf.out]; rfl), hB1⟩
    · have hlb : ((P.length : Int) != (E.length : Int)) = true := by simp; omega
      have hf : Hid (checkB V E P = false) := Lib.hid (by unfold checkB; rw [show (P.length == E.length) = false by simpa using hlen]; simp)
      clear hlen hv
      go_wp2_with fail
      go_ret
      exact ⟨by first | rfl | (rw [hf.out]; rfl), hB1⟩
end Go.Proofs.Ytkenbmelhfhidaa
